/-
  Plain servers: what they hold, what they answer.
-/
import Derived.Test.YtabifopphhpciaaGreatDoorM8
import Derived.Test.YtabifopphhpciaaGreatDoorM6
import Derived.LaidEql
import Derived.Stop.Asserts
import Derived.RowKitTokens
import Derived.ArgAppend
namespace Go.Vc
open Go Go.Vc.Asn
section
variable {α : Type} {enc : α → List Value} {k : Nat}
theorem fset (hk : ∀ x, (enc x).length = k) {y : α} {v : Value} {j : Nat} (hj : j < k) : ∀ (l : List α) (i : Nat) (h : i < l.length), enc y = (enc l[i]).set j v → (l.flatMap enc).set (i * k + j) v = (l.set i y).flatMap enc
  | [], i, h, _ => by simp at h
  | x :: l, 0, _, hy => by
    simp only [List.flatMap_cons, Nat.zero_mul, Nat.zero_add, List.set_cons_zero]
    simp only [List.getElem_cons_zero] at hy
    rw [List.set_append_left _ _ (by rw [hk]; exact hj), hy]
  | x :: l, i + 1, h, hy => by
    simp only [List.flatMap_cons, List.set_cons_succ]
    simp only [List.getElem_cons_succ] at hy
    have e : (i + 1) * k + j = k + (i * k + j) := by rw [Nat.add_mul]; omega
    rw [List.set_append_right _ _ (by rw [hk]; omega), hk, e, Nat.add_sub_cancel_left, fset hk hj l i (by simpa using h) hy]
theorem Hp.stoF {e : Nat} {w0 w : World} {F : Asn} {s : Slc} {l : List α} {i j : Nat} {a : Addr} {v : Value} {y : α} (hk : ∀ x, (enc x).length = k) (H : Hp w0 w (star (Asn.own e k s (l.flatMap enc)) F)) (hi : i < l.length) (hj : j < k) (ha : s.a = some a) (hy : enc y = (enc l[i]).set j v) {K : World → Prop}
    (h : ∀ w', Hp w0 w' (star (Asn.own e k s ((l.set i y).flatMap enc)) F) → K w') : Sto w ((a.add (Int.toNat (i : Int) * k)).add j) v K := by
  have hle : i * k + k ≤ l.length * k := by rw [← Nat.succ_mul]; exact Nat.mul_le_mul_right _ hi
  have hl : i * k + j < (l.flatMap enc).length := by rw [flat_len hk]; omega
  rw [Int.toNat_natCast, add_add]
  refine H.stoS (s := s) hl ha fun w' H => h w' ?_
  rw [fset hk hj l i hi hy] at H
  exact H
end
structure Hd where
  tag : Tg
  fin : Bool
  has : Bool
  data : Slc
  bs : List UInt8
abbrev Hd.c (h : Hd) : List Value := [.int .i64 h.tag.n, .int .i64 h.tag.c, .bool h.fin, .bool h.has, h.data.v]
structure Ha where
  tag : Tg
  fin : Bool
  has : Bool
  bs : List UInt8
def Hd.abs (h : Hd) : Ha := ⟨h.tag, h.fin, h.has, h.bs⟩
structure Pl where
  b : Nat
  s : Slc
  l : List Hd
def Pl.abs (x : Pl) : List Ha := x.l.map Hd.abs
def topF (t : Tg) (h : Ha) : Tg := if h.fin then t.max h.tag else t
def plTop (l : List Ha) : Tg := l.foldl topF Tg.zero
def sameT (t : Tg) (h : Ha) : Bool := decide (h.tag.n = t.n) && decide (h.tag.c = t.c)
def plIdx (l : List Ha) (t : Tg) : Nat := l.findIdx (sameT t)
def plAdd (l : List Ha) (t : Tg) : List Ha := if plIdx l t < l.length then l else l ++ [⟨t, false, false, []⟩]
def Ha.give (bs : List UInt8) (h : Ha) : Ha := if h.has then h else { h with has := true, bs := bs }
def Ha.end (h : Ha) : Ha := { h with fin := true }
def modA (l : List Ha) (i : Nat) (f : Ha → Ha) : List Ha := l.set i (f (l.getD i ⟨Tg.zero, false, false, []⟩))
def plAns (l : List Ha) (m : Am) : List Ha × Am :=
  if m.k = 1 then (l, ⟨m.k + 1, m.cl, m.sv, m.op, m.key, m.tag, plTop l, false, []⟩)
  else if m.k = 3 then (modA (plAdd l m.tag) (plIdx l m.tag) (Ha.give m.bs), ⟨m.k + 1, m.cl, m.sv, m.op, m.key, m.tag, Tg.zero, false, []⟩)
  else
    let l2 := modA (plAdd l m.tag) (plIdx l m.tag) Ha.end
    if m.k = 7 then (l2, ⟨m.k + 1, m.cl, m.sv, m.op, m.key, m.tag, plTop l2, (l2.getD (plIdx l m.tag) ⟨Tg.zero, false, false, []⟩).has, (l2.getD (plIdx l m.tag) ⟨Tg.zero, false, false, []⟩).bs⟩)
    else (l2, ⟨m.k + 1, m.cl, m.sv, m.op, m.key, m.tag, Tg.zero, false, []⟩)
end Go.Vc
namespace Go.Proofs.YtabifopphhpciaaGreatDoor
open Go Go.Vc Go.Vc.Asn Go.Gf
def hdA (h : Hd) : Asn := own Ty_uint8 1 h.data (h.bs.map u8v)
def plA (x : Pl) : Asn := star (bk x.b Ty_sherdlaw18_Plain #[x.s.v]) (star (own Ty_sherdlaw18_Held 5 x.s (x.l.flatMap Hd.c)) (all hdA x.l))
theorem hd_len (h : Hd) : h.c.length = 5 := rfl
section
variable {w0 w : World} {F Vp : Asn} {x : Pl} {t : Tg} {m : Ms}
theorem pl_open (H : Hp w0 w (star (plA x) F)) : Hp w0 w (star (bk x.b Ty_sherdlaw18_Plain #[x.s.v]) (star (own Ty_sherdlaw18_Held 5 x.s (x.l.flatMap Hd.c)) (star (all hdA x.l) F))) := H.assoc.ent (Ent.star (Ent.refl _) assoc)
theorem pl_close (H : Hp w0 w (star (bk x.b Ty_sherdlaw18_Plain #[x.s.v]) (star (own Ty_sherdlaw18_Held 5 x.s (x.l.flatMap Hd.c)) (star (all hdA x.l) F)))) : Hp w0 w (star (plA x) F) := (H.ent (Ent.star (Ent.refl _) assoc')).assoc'
theorem rdHd {A : Asn} {s : Slc} {l : List Hd} [h : TakeS s A Ty_sherdlaw18_Held 5 (l.flatMap Hd.c) F] (H : Hp w0 w A) {i : Nat} (hi : i < l.length) : s.l = l.length ∧ ∃ a, s.a = some a ∧ ∀ j v, l[i].c[j]? = some v → w.cell? ((a.add (Int.toNat (i : Int) * 5)).add j) = some v := by
  have hc : Cel w s 5 (l.flatMap Hd.c) := (H.ent h.e).cel (s := s)
  obtain ⟨a, ha, he⟩ := Cel.elem (enc := Hd.c) hd_len hc (List.getElem?_eq_getElem hi) (by decide)
  exact ⟨Cel.flen (enc := Hd.c) hd_len hc (by decide), a, ha, he⟩
theorem hdLen {A : Asn} {s : Slc} {l : List Hd} [h : TakeS s A Ty_sherdlaw18_Held 5 (l.flatMap Hd.c) F] (H : Hp w0 w A) : s.l = l.length := Cel.flen (enc := Hd.c) hd_len ((H.ent h.e).cel (s := s)) (by decide)
theorem plTop_c (hl : x.l.length ≤ 1099511627776) (H : Hp w0 w (star (plA x) F)) : Calls PP F_sherdlaw18_Plain_top #[.pointer (some (blk x.b))] w (Rt fun v w' => v = (plTop x.abs).v ∧ Fr [] w w') := by
  have H0 := pl_open H
  clear H
  refine sim_sherdlaw18_Plain_top _ _ _ ?_
  unfold vc_sherdlaw18_Plain_top
  refine nw fun b3 w1 J f1 => J.new fun b7 w2 J => ?_
  refine ⟨fun z w' => ∃ i : Nat, z = (i : Int) ∧ i ≤ x.l.length ∧ Hp w w' (star (bk b7 Ty_api_Tag #[.int .i64 (plTop (x.abs.take i)).n, .int .i64 (plTop (x.abs.take i)).c]) (star (bk b3 Ty_api_Tag #[.int .i64 0, .int .i64 0]) emp)), fun z _ => x.l.length - z.toNat, ⟨0, rfl, Nat.zero_le _, J⟩, ?_⟩
  clear J
  rintro _ w3 ⟨i, rfl, hi, J⟩
  have H := H0.fr0 J.fr
  have hsl : x.s.l = x.l.length := hdLen H
  refine ⟨_, rfl, _, H.cell (b := x.b) (i := 0) rfl, fun h => ?_, fun h => ?_⟩
  · have hlt : i < x.l.length := by have := of_decide_eq_true h; omega
    have e1 : wr .i64 ((i : Int) + 1) = ((i + 1 : Nat) : Int) := by rw [wr64 (by omega) (by omega)]; omega
    obtain ⟨-, a, ha, he⟩ := rdHd (s := x.s) H hlt
    have hstep : plTop (x.abs.take (i + 1)) = topF (plTop (x.abs.take i)) x.l[i].abs := by
      unfold plTop
      rw [List.take_succ_eq_append_getElem (by unfold Pl.abs; simpa using hlt), List.foldl_append]
      unfold Pl.abs
      simp
    refine ⟨fun w' => Hp w w' (star (bk b7 Ty_api_Tag #[.int .i64 (plTop (x.abs.take (i + 1))).n, .int .i64 (plTop (x.abs.take (i + 1))).c]) (star (bk b3 Ty_api_Tag #[.int .i64 0, .int .i64 0]) emp)), ⟨_, H.cell (b := x.b) (i := 0) rfl, a, ha, by omega, by omega, x.l[i].fin, he 2 _ rfl, fun hf => ?_, fun hf => ?_⟩, fun w4 J => ?_⟩
    · have J := J.drew 1
      have H := H0.fr0 J.fr
      obtain ⟨-, a', ha', he⟩ := rdHd (s := x.s) H hlt
      obtain rfl : a = a' := by rw [ha] at ha'; injection ha'
      refine ⟨_, J.cell (b := b7) (i := 0) rfl, _, J.cell (b := b7) (i := 1) rfl, _, H.cell (b := x.b) (i := 0) rfl, a, ha, by omega, by omega, x.l[i].tag.n, by rw [add_add]; exact he 0 _ rfl, x.l[i].tag.c, by rw [add_add]; exact he 1 _ rfl, ?_⟩
      refine J.newRow (e := Ty_api_Tag) (n := 2) (size := 2) ((plTop (x.abs.take i)).cells ++ x.l[i].tag.cells) rfl rfl (by decide) fun b50 w5 J => ?_
      refine call (tmax_c (J.cel (s := ⟨some (blk b50), 2, 2⟩))) ?_
      rintro _ w6 ⟨rfl, f6⟩
      have J := (J.fr0 f6).drop
      refine ⟨_, _, rfl, J.stoAll (b := b7) (by rfl) fun w7 J => ?_⟩
      rw [hstep]
      unfold topF
      rw [show x.l[i].abs.fin = true from hf, if_pos rfl]
      exact J.blk b7
    · rw [hstep]
      unfold topF
      rw [show x.l[i].abs.fin = false from hf]
      exact J
    · rw [e1]
      exact ⟨⟨i + 1, rfl, hlt, J⟩, by show x.l.length - ((i + 1 : Nat) : Int).toNat < x.l.length - ((i : Nat) : Int).toNat; omega⟩
  · have hie : i = x.l.length := by have := of_decide_eq_false h; omega
    refine ⟨_, J.cell (b := b7) (i := 0) rfl, _, J.cell (b := b7) (i := 1) rfl, J.stoAll (b := b3) (by rfl) fun w4 J => ⟨_, J.cell (b := b3) (i := 0) rfl, _, J.cell (b := b3) (i := 1) rfl, Rt.ok ⟨?_, J.fr⟩⟩⟩
    rw [List.take_of_length_le (by unfold Pl.abs; rw [List.length_map]; omega)]
abbrev hd0 (t : Tg) : Hd := ⟨t, false, false, Slc.nil, []⟩
theorem one_hd (l : List Hd) : ∀ u ∈ l.flatMap Hd.c, u.oneCell' = true := by
  intro u hu
  obtain ⟨h, _, hu⟩ := List.mem_flatMap.1 hu
  simp only [List.mem_cons, List.not_mem_nil, or_false] at hu
  rcases hu with rfl | rfl | rfl | rfl | rfl <;> rfl
theorem plIdx_le (l : List Ha) (t : Tg) : plIdx l t ≤ l.length := List.findIdx_le_length
theorem plFind_c (hl : x.l.length ≤ 1000000000) (H : Hp w0 w (star (plA x) F)) : Calls PP F_sherdlaw18_Plain_find #[.pointer (some (blk x.b)), t.v] w (Rt fun v w' => ∃ x' : Pl, v = .int .i64 ((plIdx x.abs t : Nat) : Int) ∧ x'.b = x.b ∧ x'.abs = plAdd x.abs t ∧ plIdx x.abs t < x'.l.length ∧ Hp w0 w' (star (plA x') F)) := by
  have H := pl_open H
  refine sim_sherdlaw18_Plain_find _ _ _ _ _ ?_
  unfold vc_sherdlaw18_Plain_find
  refine H.new fun b5 w1 H => ?_
  have hal : x.abs.length = x.l.length := by unfold Pl.abs; rw [List.length_map]
  refine ⟨fun z w' => ∃ i : Nat, z = (i : Int) ∧ i ≤ plIdx x.abs t ∧ Hp w0 w' (star (bk b5 Ty_api_Tag #[.int .i64 t.n, .int .i64 t.c]) (star (bk x.b Ty_sherdlaw18_Plain #[x.s.v]) (star (own Ty_sherdlaw18_Held 5 x.s (x.l.flatMap Hd.c)) (star (all hdA x.l) F)))), fun z _ => x.l.length - z.toNat, ⟨0, rfl, Nat.zero_le _, H⟩, ?_⟩
  clear H
  rintro _ w3 ⟨i, rfl, hi, H⟩
  have hsl : x.s.l = x.l.length := hdLen H
  have hxl := plIdx_le x.abs t
  refine ⟨_, rfl, _, H.cell (b := x.b) (i := 0) rfl, fun h => ?_, fun h => ?_⟩
  · have hlt : i < x.l.length := by have := of_decide_eq_true h; omega
    have e1 : wr .i64 ((i : Int) + 1) = ((i + 1 : Nat) : Int) := by rw [wr64 (by omega) (by omega)]; omega
    obtain ⟨-, a, ha, he⟩ := rdHd (s := x.s) H hlt
    have hat : x.abs[i]'(by omega) = x.l[i].abs := by unfold Pl.abs; rw [List.getElem_map]
    refine ⟨_, H.cell (b := x.b) (i := 0) rfl, a, ha, by omega, by omega, x.l[i].tag.n, by rw [add_add]; exact he 0 _ rfl, x.l[i].tag.c, by rw [add_add]; exact he 1 _ rfl, _, H.cell (b := b5) (i := 0) rfl, _, H.cell (b := b5) (i := 1) rfl, fun q => ⟨fun hs => ?_, fun hs => ?_⟩⟩
    · have hs : sameT t (x.abs[i]'(by omega)) = true := by rw [hat]; exact hs
      have hix : plIdx x.abs t = i := Nat.le_antisymm (Nat.le_of_not_lt fun hc => by rw [List.not_of_lt_findIdx hc] at hs; exact nomatch hs) hi
      refine Rt.ok ⟨x, by rw [hix], rfl, ?_, by omega, pl_close ((H.drew q).blk b5).drop⟩
      unfold plAdd
      rw [if_pos (by omega)]
    · have hs : sameT t (x.abs[i]'(by omega)) = false := by rw [hat]; exact hs
      have hne : plIdx x.abs t ≠ i := fun hc => by
        have := List.findIdx_getElem (p := sameT t) (xs := x.abs) (w := by show plIdx x.abs t < _; omega)
        have e : x.abs[List.findIdx (sameT t) x.abs]'(by show plIdx x.abs t < _; omega) = x.abs[i]'(by omega) := by congr 1
        rw [e, hs] at this
        exact nomatch this
      rw [e1]
      exact ⟨⟨i + 1, rfl, by omega, H.drew q⟩, by show x.l.length - ((i + 1 : Nat) : Int).toNat < x.l.length - ((i : Nat) : Int).toNat; omega⟩
  · have hie : plIdx x.abs t = x.l.length := by have := of_decide_eq_false h; omega
    have H := H.drew 1
    refine ⟨_, H.cell (b := x.b) (i := 0) rfl, _, H.cell (b := b5) (i := 0) rfl, _, H.cell (b := b5) (i := 1) rfl, ?_⟩
    refine H.newRow (e := Ty_sherdlaw18_Held) (n := 1) (size := 5) (Hd.c (hd0 t)) rfl rfl (by decide) fun b46 w4 H => ⟨H.cell (b := x.b) (i := 0) rfl, ?_⟩
    refine H.app (s := x.s) slT_sl_sherdlaw18_Held (H.cel (s := ⟨some (blk b46), 1, 1⟩)) (fun u hu => one_hd [(hd0 t)] u (by simpa using hu)) (by unfold maxLen; simp only; omega) (by simp only; omega) fun s' w5 H hl' => ?_
    have H := (H.own ⟨some (blk b46), 1, 1⟩).drop
    refine H.sto (b := x.b) (i := 0) (by simp) fun w6 H => ⟨_, H.cell (b := x.b) (i := 0) rfl, Rt.ok ⟨⟨x.b, s', x.l ++ [hd0 t]⟩, ?_, rfl, ?_, ?_, ?_⟩⟩
    · rw [hie, hl', wr64 (by simp only; omega) (by simp only; omega)]
      simp only
      congr 1
      omega
    · unfold plAdd
      rw [if_neg (by omega)]
      unfold Pl.abs
      rw [List.map_append]
      rfl
    · rw [hie]; simp
    · refine pl_close (x := ⟨x.b, s', x.l ++ [hd0 t]⟩) ?_
      show Hp w0 w6 (star (bk x.b Ty_sherdlaw18_Plain #[s'.v]) (star (own Ty_sherdlaw18_Held 5 s' ((x.l ++ [(hd0 t)]).flatMap Hd.c)) (star (all hdA (x.l ++ [(hd0 t)])) F)))
      rw [show (x.l ++ [hd0 t]).flatMap Hd.c = x.l.flatMap Hd.c ++ Hd.c (hd0 t) by simp]
      have H := ((H.blk b5).drop.nilRow Ty_uint8 1)
      have H : Hp w0 w6 (star (hdA (hd0 t)) _) := H
      have H := (((H.take (all hdA x.l)).take (hdA (hd0 t))).assoc').ent (Ent.star (all_snoc1 hdA (hd0 t) x.l) (Ent.refl _))
      exact (H.own s').blk x.b
theorem plAdd_mem {l : List Ha} {h : Ha} (hm : h ∈ plAdd l t) : h ∈ l ∨ h.bs = [] := by
  unfold plAdd at hm
  split at hm
  · exact .inl hm
  · rcases List.mem_append.1 hm with hm | hm
    · exact .inl hm
    · rw [List.mem_singleton.1 hm]; exact .inr rfl
theorem abs_at {l : List Hd} {i : Nat} (h : i < l.length) : (l.map Hd.abs).getD i ⟨Tg.zero, false, false, []⟩ = l[i].abs := by
  rw [List.getD_eq_getElem?_getD, List.getElem?_map, List.getElem?_eq_getElem h]; rfl
theorem mod_at {l : List Hd} {i : Nat} (h : i < l.length) {f : Ha → Ha} {y : Hd} (hy : y.abs = f l[i].abs) : (l.set i y).map Hd.abs = modA (l.map Hd.abs) i f := by
  unfold modA
  rw [abs_at h, List.map_set, hy]
theorem hdBs {l : List Hd} {i : Nat} (h : i < l.length) (H : Hp w0 w (star (all hdA l) F)) : Byt w l[i].data l[i].bs := by
  have H := H.ent (Ent.star (all_at hdA l i h) (Ent.refl _))
  have H : Hp w0 w (star (own Ty_uint8 1 l[i].data (l[i].bs.map u8v)) _) := H.assoc
  exact H.cel (s := l[i].data)
theorem hdPut {l : List Hd} {i : Nat} (h : i < l.length) {y : Hd} {s : Slc} (hs : y.data = s) {bs : List UInt8} (hb : y.bs = bs) (H : Hp w0 w (star (own Ty_uint8 1 s (bs.map u8v)) (star (all hdA l) F))) : Hp w0 w (star (all hdA (l.set i y)) F) := by
  subst hs hb
  have H : Hp w0 w (star (hdA y) (star (all hdA l) F)) := H
  have H := H.ent (Ent.star (Ent.refl _) (Ent.star (all_at hdA l i h) (Ent.refl _)))
  have H := H.ent (Ent.star (Ent.refl _) assoc)
  have H := H.swap.drop
  exact H.assoc'.ent (Ent.star (all_put hdA y l i h) (Ent.refl _))
theorem hdSame {l : List Hd} {i : Nat} (h : i < l.length) {y : Hd} (hs : y.data = l[i].data) (hb : y.bs = l[i].bs) (H : Hp w0 w (star (all hdA l) F)) : Hp w0 w (star (all hdA (l.set i y)) F) := by
  have e : hdA l[i] = hdA y := by unfold hdA; rw [hs, hb]
  have H := H.ent (Ent.star (all_at hdA l i h) (Ent.refl _))
  rw [e] at H
  exact H.ent (Ent.star (all_put hdA y l i h) (Ent.refl _))
abbrev anA (b14 b17 b21 : Nat) (m a : Ms) (F : Asn) : Asn := star (bk b21 Ty_api_Message a.c.toArray) (star (bk b17 Ty_api_Message #[.int .i64 0, .int .i64 0, .int .i64 0, .int .i64 0, .string (ByteArray.mk #[]), .int .i64 0, .int .i64 0, .int .i64 0, .int .i64 0, .bool false, Slc.v Slc.nil]) (star (bk b14 Ty_api_Message m.c.toArray) F))
theorem plAns_c (hV : ∀ {w' : World} {A' : Asn}, Hp w0 w' (star Vp A') → Byt w' m.data m.bs) (hb : m.bs.length ≤ 1099511627776) (hl : x.l.length ≤ 999999999) (hlb : ∀ h ∈ x.abs, h.bs.length ≤ 1099511627776) (hk0 : 0 ≤ m.k) (hk1 : m.k ≤ 1000) (H : Hp w0 w (star (plA x) (star Vp F))) :
    Calls PP F_sherdlaw18_Plain_answer #[.pointer (some (blk x.b)), .agg m.c.toArray] w (Rt fun v w' => ∃ (x' : Pl) (a : Ms), v = .agg a.c.toArray ∧ x'.b = x.b ∧ x'.abs = (plAns x.abs m.abs).1 ∧ a.abs = (plAns x.abs m.abs).2 ∧ Hp w0 w' (star (mdA a) (star (plA x') (star Vp F)))) := by
  refine sim_sherdlaw18_Plain_answer _ _ _ _ _ _ _ _ _ _ _ _ _ _ ?_
  unfold vc_sherdlaw18_Plain_answer
  refine H.new fun b14 w1 H => H.new fun b17 w2 H => H.new fun b21 w3 H => ?_
  have ek : wr .i64 (m.k + 1) = m.k + 1 := wr64 (by omega) (by omega)
  rw [ek]
  refine H.stoAll (b := b21) (by rfl) fun w4 H => ?_
  have H : Hp w0 w4 (anA b14 b17 b21 m ⟨m.k + 1, m.cl, m.sv, m.op, m.key, m.tag, Tg.zero, false, Slc.nil, []⟩ (star (plA x) (star Vp F))) := (((H.blk b14).blk b17).blk b21)
  refine ⟨_, H.cell (b := b14) (i := 0) rfl, fun h => ?_, fun h => ?_⟩
  · have h1 : m.k = 1 := of_decide_eq_true h
    refine call (plTop_c (x := x) (by omega) (H.take (plA x))) ?_
    rintro _ w5 ⟨rfl, f5⟩
    have H := H.fr0 f5
    refine ⟨_, _, rfl, StoN.two (H.sto2 (b := b21) (i := 7) (j := 0) (by simp) fun w6 H => H.sto2 (b := b21) (i := 7) (j := 1) (by simp) fun w7 H => ?_)⟩
    refine ⟨_, H.cell (b := b21) (i := 0) rfl, _, H.cell (b := b21) (i := 1) rfl, _, H.cell (b := b21) (i := 2) rfl, _, H.cell (b := b21) (i := 3) rfl, _, H.cell (b := b21) (i := 4) rfl, _, H.cell (b := b21) (i := 5) rfl, _, H.cell (b := b21) (i := 6) rfl, _, H.cell (b := b21) (i := 7) rfl, _, H.cell (b := b21) (i := 8) rfl, _, H.cell (b := b21) (i := 9) rfl, _, H.cell (b := b21) (i := 10) rfl, H.stoAll (b := b17) (by rfl) fun w8 H => ⟨_, H.cell (b := b17) (i := 0) rfl, _, H.cell (b := b17) (i := 1) rfl, _, H.cell (b := b17) (i := 2) rfl, _, H.cell (b := b17) (i := 3) rfl, _, H.cell (b := b17) (i := 4) rfl, _, H.cell (b := b17) (i := 5) rfl, _, H.cell (b := b17) (i := 6) rfl, _, H.cell (b := b17) (i := 7) rfl, _, H.cell (b := b17) (i := 8) rfl, _, H.cell (b := b17) (i := 9) rfl, _, H.cell (b := b17) (i := 10) rfl, Rt.ok ⟨x, ⟨m.k + 1, m.cl, m.sv, m.op, m.key, m.tag, plTop x.abs, false, Slc.nil, []⟩, rfl, rfl, ?_, ?_, ?_⟩⟩⟩
    · unfold plAns; rw [if_pos (show m.abs.k = 1 from h1)]
    · unfold plAns; rw [if_pos (show m.abs.k = 1 from h1)]; rfl
    · exact (((H.blk b17).drop.blk b21).drop.blk b14).drop.nilRow Ty_uint8 1
  have h1 : m.k ≠ 1 := of_decide_eq_false h
  refine ⟨_, H.cell2 (b := b14) (i := 5) (j := 0) rfl, _, H.cell2 (b := b14) (i := 5) (j := 1) rfl, call (plFind_c (x := x) (t := m.tag) (by omega) (H.take (plA x))) ?_⟩
  rintro _ w5 ⟨x1, rfl, hx1, hab, hix, H⟩
  generalize hI : plIdx x.abs m.tag = I at hix
  have H := pl_open H
  have H : Hp w0 w5 (anA b14 b17 b21 m ⟨m.k + 1, m.cl, m.sv, m.op, m.key, m.tag, Tg.zero, false, Slc.nil, []⟩ (star (bk x.b Ty_sherdlaw18_Plain #[x1.s.v]) (star (own Ty_sherdlaw18_Held 5 x1.s (x1.l.flatMap Hd.c)) (star (all hdA x1.l) (star Vp F))))) := by
    rw [hx1] at H
    exact (((H.blk b14).blk b17).blk b21)
  have hsl : x1.s.l = x1.l.length := hdLen H
  obtain ⟨-, a, ha, he⟩ := rdHd (s := x1.s) H hix
  refine ⟨_, rfl, _, H.cell (b := b14) (i := 0) rfl, fun h => ?_, fun h => ?_⟩
  · have h3 : m.k = 3 := of_decide_eq_true h
    have ea : plAns x.abs m.abs = (modA (plAdd x.abs m.tag) I (Ha.give m.bs), ⟨m.k + 1, m.cl, m.sv, m.op, m.key, m.tag, Tg.zero, false, []⟩) := by
      unfold plAns
      rw [if_neg (show ¬ m.abs.k = 1 from h1), if_pos (show m.abs.k = 3 from h3), ← hI]
      rfl
    rw [ea]
    refine ⟨fun w' => ∃ x2 : Pl, x2.b = x.b ∧ x2.abs = modA (plAdd x.abs m.tag) I (Ha.give m.bs) ∧ Hp w0 w' (anA b14 b17 b21 m ⟨m.k + 1, m.cl, m.sv, m.op, m.key, m.tag, Tg.zero, false, Slc.nil, []⟩ (star (plA x2) (star Vp F))), ⟨_, rfl, _, H.cell (b := x.b) (i := 0) rfl, a, ha, by omega, by omega, _, he 3 _ rfl, fun hf => ?_, fun hf => ?_⟩, ?_⟩
    · have hf : x1.l[I].has = false := by simpa using hf
      refine ⟨_, H.cell (b := x.b) (i := 0) rfl, a, ha, by omega, by omega, ?_⟩
      refine Hp.stoF (enc := Hd.c) (y := { x1.l[I] with has := true }) hd_len (H.own x1.s) hix (by decide) ha rfl fun w6 H => ?_
      have H := H.drew 1
      refine ⟨_, H.cell (b := x.b) (i := 0) rfl, _, H.cell (b := b14) (i := 10) rfl, ?_⟩
      refine H.newRow (e := Ty_uint8) (n := 0) (size := 1) [] rfl rfl (by decide) fun b172 w7 H => ⟨H.cell (b := x.b) (i := 0) rfl, H.cell (b := b14) (i := 10) rfl, ?_⟩
      have hB := hV (H.take Vp)
      have hBl := hB.len
      refine Hp.app (s := ⟨some (blk b172), 0, 0⟩) slT_sl_uint8 H hB (one_u8 _) (by unfold maxLen; simp only; omega) (by simp only; omega) fun s2 w8 H _ => ⟨H.cell (b := x.b) (i := 0) rfl, a, ha, by omega, by omega, ?_⟩
      have hle : I < (x1.l.set I { x1.l[I] with has := true }).length := by rw [List.length_set]; exact hix
      refine Hp.stoF (enc := Hd.c) (y := { x1.l[I] with has := true, data := s2, bs := m.bs }) hd_len (H.own x1.s) hle (by decide) ha (by rw [List.getElem_set_self]; rfl) fun w9 H => ⟨⟨x.b, x1.s, x1.l.set I { x1.l[I] with has := true, data := s2, bs := m.bs }⟩, rfl, ?_, ?_⟩
      · rw [← hab]
        refine mod_at hix ?_
        unfold Ha.give
        rw [if_neg (by show ¬ (x1.l[I].has = true); rw [hf]; decide)]
        rfl
      · rw [List.set_set] at H
        have H := hdPut hix (y := { x1.l[I] with has := true, data := s2, bs := m.bs }) rfl rfl ((H.take (all hdA x1.l)).own s2)
        have H := pl_close (x := ⟨x.b, x1.s, x1.l.set I { x1.l[I] with has := true, data := s2, bs := m.bs }⟩) (((H.take (all hdA (x1.l.set I { x1.l[I] with has := true, data := s2, bs := m.bs }))).own x1.s).blk x.b)
        exact ((((H.take Vp).take (plA ⟨x.b, x1.s, x1.l.set I { x1.l[I] with has := true, data := s2, bs := m.bs }⟩)).blk b14).blk b17).blk b21
    · have hf : x1.l[I].has = true := by simpa using hf
      refine ⟨⟨x.b, x1.s, x1.l⟩, rfl, ?_, ?_⟩
      · rw [← hab]
        have e := mod_at (f := Ha.give m.bs) hix (y := x1.l[I]) (by unfold Ha.give; rw [if_pos (show x1.l[I].abs.has = true from hf)])
        rw [List.set_getElem_self] at e
        exact e
      · have H := pl_close (x := ⟨x.b, x1.s, x1.l⟩) (((H.take (all hdA x1.l)).own x1.s).blk x.b)
        exact ((((H.take Vp).take (plA ⟨x.b, x1.s, x1.l⟩)).blk b14).blk b17).blk b21
    · rintro w6 ⟨x2, hx2, hab2, H⟩
      refine ⟨_, H.cell (b := b21) (i := 0) rfl, _, H.cell (b := b21) (i := 1) rfl, _, H.cell (b := b21) (i := 2) rfl, _, H.cell (b := b21) (i := 3) rfl, _, H.cell (b := b21) (i := 4) rfl, _, H.cell (b := b21) (i := 5) rfl, _, H.cell (b := b21) (i := 6) rfl, _, H.cell (b := b21) (i := 7) rfl, _, H.cell (b := b21) (i := 8) rfl, _, H.cell (b := b21) (i := 9) rfl, _, H.cell (b := b21) (i := 10) rfl, H.stoAll (b := b17) (by rfl) fun w8 H => ⟨_, H.cell (b := b17) (i := 0) rfl, _, H.cell (b := b17) (i := 1) rfl, _, H.cell (b := b17) (i := 2) rfl, _, H.cell (b := b17) (i := 3) rfl, _, H.cell (b := b17) (i := 4) rfl, _, H.cell (b := b17) (i := 5) rfl, _, H.cell (b := b17) (i := 6) rfl, _, H.cell (b := b17) (i := 7) rfl, _, H.cell (b := b17) (i := 8) rfl, _, H.cell (b := b17) (i := 9) rfl, _, H.cell (b := b17) (i := 10) rfl, Rt.ok ⟨x2, ⟨m.k + 1, m.cl, m.sv, m.op, m.key, m.tag, Tg.zero, false, Slc.nil, []⟩, rfl, hx2, hab2, rfl, ?_⟩⟩⟩
      exact (((H.blk b17).drop.blk b21).drop.blk b14).drop.nilRow Ty_uint8 1
  have h3 : m.k ≠ 3 := of_decide_eq_false h
  refine ⟨_, rfl, _, H.cell (b := x.b) (i := 0) rfl, a, ha, by omega, by omega, ?_⟩
  refine Hp.stoF (enc := Hd.c) (y := { x1.l[I] with fin := true }) hd_len (H.own x1.s) hix (by decide) ha rfl fun w6 H => ?_
  have H := hdSame hix (y := { x1.l[I] with fin := true }) rfl rfl (H.take (all hdA x1.l))
  have hab2 : (⟨x.b, x1.s, x1.l.set I { x1.l[I] with fin := true }⟩ : Pl).abs = modA (plAdd x.abs m.tag) I Ha.end := by
    rw [← hab]
    exact mod_at hix rfl
  have hix2 : I < (x1.l.set I { x1.l[I] with fin := true }).length := by rw [List.length_set]; exact hix
  have hx1n : x1.l.length ≤ x.l.length + 1 := by
    have e := congrArg List.length hab
    unfold plAdd Pl.abs at e
    split at e <;> simp at e <;> omega
  have hbI : ((x1.l.set I { x1.l[I] with fin := true })[I]).bs.length ≤ 1099511627776 := by
    rw [List.getElem_set_self]
    show x1.l[I].bs.length ≤ 1099511627776
    have hm : x1.l[I].abs ∈ plAdd x.abs m.tag := by rw [← hab]; exact List.mem_map.2 ⟨_, List.getElem_mem hix, rfl⟩
    rcases plAdd_mem hm with hm | hm
    · exact hlb _ hm
    · rw [show x1.l[I].bs = [] from hm]; decide
  have hl2n : (x1.l.set I { x1.l[I] with fin := true }).length ≤ 1000000000 := by rw [List.length_set]; omega
  generalize hl2 : x1.l.set I { x1.l[I] with fin := true } = l2 at H hab2 hix2 hbI hl2n
  have H : Hp w0 w6 (anA b14 b17 b21 m ⟨m.k + 1, m.cl, m.sv, m.op, m.key, m.tag, Tg.zero, false, Slc.nil, []⟩ (star (plA ⟨x.b, x1.s, l2⟩) (star Vp F))) := (((((pl_close (x := ⟨x.b, x1.s, l2⟩) (((H.take (all hdA l2)).own x1.s).blk x.b)).take Vp).take (plA ⟨x.b, x1.s, l2⟩)).blk b14).blk b17).blk b21
  have ea : plAns x.abs m.abs = (modA (plAdd x.abs m.tag) I Ha.end, if m.k = 7 then ⟨m.k + 1, m.cl, m.sv, m.op, m.key, m.tag, plTop (modA (plAdd x.abs m.tag) I Ha.end), ((modA (plAdd x.abs m.tag) I Ha.end).getD I ⟨Tg.zero, false, false, []⟩).has, ((modA (plAdd x.abs m.tag) I Ha.end).getD I ⟨Tg.zero, false, false, []⟩).bs⟩ else ⟨m.k + 1, m.cl, m.sv, m.op, m.key, m.tag, Tg.zero, false, []⟩) := by
    unfold plAns
    rw [if_neg (show ¬ m.abs.k = 1 from h1), if_neg (show ¬ m.abs.k = 3 from h3), ← hI]
    by_cases h7 : m.k = 7
    · rw [if_pos h7]; dsimp only; rw [if_pos (show m.abs.k = 7 from h7)]; rfl
    · rw [if_neg h7]; dsimp only; rw [if_neg (show ¬ m.abs.k = 7 from h7)]; rfl
  rw [ea, ← hab2]
  refine ⟨fun w' => ∃ a : Ms, a.abs = (if m.k = 7 then ⟨m.k + 1, m.cl, m.sv, m.op, m.key, m.tag, plTop (Pl.abs ⟨x.b, x1.s, l2⟩), ((Pl.abs ⟨x.b, x1.s, l2⟩).getD I ⟨Tg.zero, false, false, []⟩).has, ((Pl.abs ⟨x.b, x1.s, l2⟩).getD I ⟨Tg.zero, false, false, []⟩).bs⟩ else ⟨m.k + 1, m.cl, m.sv, m.op, m.key, m.tag, Tg.zero, false, []⟩) ∧ Hp w0 w' (star (mdA a) (anA b14 b17 b21 m a (star (plA ⟨x.b, x1.s, l2⟩) (star Vp F)))), ⟨_, H.cell (b := b14) (i := 0) rfl, fun h => ?_, fun h => ?_⟩, ?_⟩
  · have h7 : m.k = 7 := of_decide_eq_true h
    refine call (plTop_c (x := ⟨x.b, x1.s, l2⟩) (by show l2.length ≤ _; omega) (H.take (plA ⟨x.b, x1.s, l2⟩))) ?_
    rintro _ w7 ⟨rfl, f7⟩
    have H := H.fr0 f7
    refine ⟨_, _, rfl, StoN.two (H.sto2 (b := b21) (i := 7) (j := 0) (by simp) fun w8 H => H.sto2 (b := b21) (i := 7) (j := 1) (by simp) fun w9 H => ?_)⟩
    have H := pl_open (H.take (plA ⟨x.b, x1.s, l2⟩))
    obtain ⟨hsl2, a2, ha2, he2⟩ := rdHd (s := x1.s) (l := l2) H hix2
    obtain rfl : a = a2 := by rw [ha] at ha2; injection ha2
    refine ⟨_, H.cell (b := x.b) (i := 0) rfl, a, ha, by omega, by show (I : Int) < (x1.s.l : Int); omega, _, he2 3 _ rfl, H.sto (b := b21) (i := 9) (by simp) fun w10 H => ?_⟩
    refine H.newRow (e := Ty_uint8) (n := 0) (size := 1) [] rfl rfl (by decide) fun b272 w11 H => ?_
    obtain ⟨-, a3, ha3, he3⟩ := rdHd (s := x1.s) (l := l2) H hix2
    obtain rfl : a = a3 := by rw [ha] at ha3; injection ha3
    have hB := hdBs hix2 (H.take (all hdA l2))
    have hBl := hB.len
    refine ⟨_, H.cell (b := x.b) (i := 0) rfl, a, ha, by omega, by show (I : Int) < (x1.s.l : Int); omega, _, he3 4 _ rfl, ?_⟩
    refine Hp.app (s := ⟨some (blk b272), 0, 0⟩) slT_sl_uint8 H hB (one_u8 _) (by unfold maxLen; simp only; omega) (by simp only; omega) fun s2 w12 H _ => H.sto (b := b21) (i := 10) (by simp) fun w13 H => ?_
    refine ⟨⟨m.k + 1, m.cl, m.sv, m.op, m.key, m.tag, plTop (Pl.abs ⟨x.b, x1.s, l2⟩), l2[I].has, s2, l2[I].bs⟩, ?_, ?_⟩
    · rw [if_pos h7]
      unfold Pl.abs
      rw [abs_at hix2]
      rfl
    · have H := pl_close (x := ⟨x.b, x1.s, l2⟩) (((H.take (all hdA l2)).own x1.s).blk x.b)
      exact ((((((H.take Vp).take (plA ⟨x.b, x1.s, l2⟩)).blk b14).blk b17).blk b21).own s2)
  · have h7 : m.k ≠ 7 := of_decide_eq_false h
    exact ⟨⟨m.k + 1, m.cl, m.sv, m.op, m.key, m.tag, Tg.zero, false, Slc.nil, []⟩, by rw [if_neg h7]; rfl, H.nilRow Ty_uint8 1⟩
  · rintro w7 ⟨a2, hA2, H⟩
    refine ⟨_, H.cell (b := b21) (i := 0) rfl, _, H.cell (b := b21) (i := 1) rfl, _, H.cell (b := b21) (i := 2) rfl, _, H.cell (b := b21) (i := 3) rfl, _, H.cell (b := b21) (i := 4) rfl, _, H.cell (b := b21) (i := 5) rfl, _, H.cell (b := b21) (i := 6) rfl, _, H.cell (b := b21) (i := 7) rfl, _, H.cell (b := b21) (i := 8) rfl, _, H.cell (b := b21) (i := 9) rfl, _, H.cell (b := b21) (i := 10) rfl, H.stoAll (b := b17) (by rfl) fun w8 H => ⟨_, H.cell (b := b17) (i := 0) rfl, _, H.cell (b := b17) (i := 1) rfl, _, H.cell (b := b17) (i := 2) rfl, _, H.cell (b := b17) (i := 3) rfl, _, H.cell (b := b17) (i := 4) rfl, _, H.cell (b := b17) (i := 5) rfl, _, H.cell (b := b17) (i := 6) rfl, _, H.cell (b := b17) (i := 7) rfl, _, H.cell (b := b17) (i := 8) rfl, _, H.cell (b := b17) (i := 9) rfl, _, H.cell (b := b17) (i := 10) rfl, Rt.ok ⟨⟨x.b, x1.s, l2⟩, a2, rfl, rfl, rfl, hA2, ?_⟩⟩⟩
    exact (((H.blk b17).drop.blk b21).drop.blk b14).drop
end
end Go.Proofs.YtabifopphhpciaaGreatDoor

namespace Go.Vc
theorem Tg.max_zero {t : Tg} (h : t.valid = true) : Tg.zero.max t = t := by
  unfold Tg.valid Tg.proper at h
  simp only [Bool.or_eq_true, Bool.and_eq_true, decide_eq_true_eq] at h
  rcases h with rfl | h
  · rfl
  · unfold Tg.max
    rw [if_pos]
    unfold Tg.cmp
    rcases cmpI_cases t.n Tg.zero.n with ⟨h1, h2⟩ | ⟨h1, h2⟩ | ⟨h1, h2⟩
    · have : Tg.zero.n = 0 := rfl
      omega
    · rw [h2, if_pos (by decide)]; decide
    · have : Tg.zero.n = 0 := rfl
      omega
theorem Tg.max_self (t : Tg) : t.max t = t := by
  unfold Tg.max
  split <;> rfl
theorem llook_notin {L : List (Int × Rp)} {k : Int} (h : k ∉ L.map (·.1)) : llook L k = none := by
  cases hl : llook L k with
  | none => rfl
  | some v => exact absurd (List.mem_map.2 ⟨_, llook_mem hl, rfl⟩) h
theorem llook_in {L : List (Int × Rp)} {k : Int} (h : k ∈ L.map (·.1)) : ∃ v, llook L k = some v := by
  cases hl : llook L k with
  | none => exact absurd h (llook_none hl)
  | some v => exact ⟨v, rfl⟩
theorem lput_new {L : List (Int × Rp)} {k : Int} {r : Rp} (h : k ∉ L.map (·.1)) : lput L k r = L ++ [(k, r)] := by
  unfold lput
  rw [if_neg h]
end Go.Vc
namespace Go.Proofs.YtabifopphhpciaaGreatDoor
open Go Go.Vc Go.Vc.Asn Go.Gf
theorem allOf_nodup (n : Nat) : (allOf n).Nodup := by
  unfold allOf
  exact List.Pairwise.map _ (fun a b (h : a ≠ b) => by show (a : Int) ≠ (b : Int); omega) List.nodup_range
theorem allOf_mem {n : Nat} {i : Int} : i ∈ allOf n ↔ 0 ≤ i ∧ i < (n : Int) := by
  unfold allOf
  rw [List.mem_map]
  constructor
  · rintro ⟨j, hj, rfl⟩
    have := List.mem_range.1 hj
    omega
  · rintro ⟨h0, h1⟩
    exact ⟨i.toNat, List.mem_range.2 (by omega), by omega⟩
theorem allOf_len (n : Nat) : (allOf n).length = n := by unfold allOf; simp
structure Came (l : List Int) (i : Nat) (t : Tg) (L : List (Int × Rp)) : Prop where
  keys : L.map (·.1) = l.take i
  top : ∀ x ∈ L, x.2.top = t
section
variable {l : List Int} {n i : Nat} {t : Tg} {L : List (Int × Rp)} {y : Opn} {m : Ms}
theorem Came.nil (l : List Int) (t : Tg) : Came l 0 t [] := ⟨rfl, fun _ h => nomatch h⟩
theorem Came.len (h : Came l i t L) (hi : i ≤ l.length) : L.length = i := by
  have := congrArg List.length h.keys
  simpa [Nat.min_eq_left hi] using this
theorem Came.new (h : Came l i t L) (hl : l.Nodup) (hi : i < l.length) : l[i] ∉ L.map (·.1) := by
  rw [h.keys]
  intro hm
  obtain ⟨j, hj, e⟩ := List.getElem_of_mem hm
  rw [List.getElem_take] at e
  have hj2 : j < i := by rw [List.length_take] at hj; omega
  have := (List.getElem_inj (h₀ := by omega) (h₁ := hi) hl).1 e
  omega
theorem Came.put (h : Came l i t L) (hl : l.Nodup) (hi : i < l.length) {r : Rp} (hr : r.top = t) : Came l (i + 1) t (lput L l[i] r) := by
  rw [lput_new (h.new hl hi)]
  refine ⟨?_, fun x hx => ?_⟩
  · rw [List.map_append, h.keys, List.take_succ_eq_append_getElem hi]
    rfl
  · rcases List.mem_append.1 hx with hx | hx
    · exact h.top x hx
    · rw [List.mem_singleton.1 hx]
      exact hr
theorem Came.topOf (h : Came l i t L) (hv : t.valid = true) (h1 : 1 ≤ L.length) : topOf L L.length = t := by
  have hall : ∀ q, q ≤ L.length → Go.Proofs.YtabifopphhpciaaGreatDoor.topOf L q = if q = 0 then Tg.zero else t := fun q => by
    induction q with
    | zero => intro _; rfl
    | succ q ih =>
      intro hq
      have hlt : q < (keysOf L).length := by rw [keysOf_len]; omega
      rw [topOf_succ hlt, ih (by omega)]
      have hmem : (keysOf L)[q] ∈ L.map (·.1) := (keysOf_perm L).mem_iff.1 (List.getElem_mem hlt)
      obtain ⟨v, hv2⟩ := llook_in hmem
      rw [hv2, Option.getD_some, h.top _ (llook_mem hv2), if_neg (Nat.succ_ne_zero q)]
      split
      · exact Tg.max_zero hv
      · exact Tg.max_self t
  rw [hall _ (Nat.le_refl _), if_neg (by omega)]
theorem Came.missing (h : Came l i t L) (hp : l.Perm (allOf n)) : (missing L n).length = n - i := by
  have hl : l.Nodup := hp.nodup_iff.2 (allOf_nodup n)
  have hll : l.length = n := by rw [hp.length_eq, allOf_len]
  have e1 : (Go.Vc.missing L n).Perm (l.filter fun k => (llook L k).isNone) := by
    show ((allOf n).filter _).Perm _
    exact (hp.filter _).symm
  have e2 : l.filter (fun k => (llook L k).isNone) = l.drop i := by
    conv => lhs; rw [← List.take_append_drop i l]
    rw [List.filter_append]
    have h1 : (l.take i).filter (fun k => (llook L k).isNone) = [] := List.filter_eq_nil_iff.2 fun k hk => by
      rw [← h.keys] at hk
      obtain ⟨v, hv⟩ := llook_in hk
      rw [hv]; simp
    have h2 : (l.drop i).filter (fun k => (llook L k).isNone) = l.drop i := List.filter_eq_self.2 fun k hk => by
      rw [llook_notin]
      · rfl
      · rw [h.keys]
        intro hk2
        have hd := List.nodup_append.1 (by rw [List.take_append_drop]; exact hl : (l.take i ++ l.drop i).Nodup)
        exact hd.2.2 k hk2 k hk rfl
    rw [h1, h2, List.nil_append]
  rw [e1.length_eq, e2, List.length_drop, hll]
end
end Go.Proofs.YtabifopphhpciaaGreatDoor

namespace Go.Vc
def stgOf : Nat → Phs
  | 0 => .ask
  | 1 => .write
  | _ => .fin
structure PutSt (c : Cfg) (id : Int) (cd o : Nat) (key : ByteArray) (bs : List UInt8) (nt : Tg) (f : Nat) (x : Cl) (y : Opn) : Prop where
  cfg : x.cfg = c
  id_ : x.id = id
  cd_ : x.cd = cd
  now : x.now = some o
  stg : y.stg = stgOf f
  op : y.op = 1
  put : y.put = true
  key_ : y.key = key
  bs_ : y.bs = bs
  tag : f ≠ 0 → y.tag = nt
  used : f = 0 → (llook x.used key).getD 0 = 0
end Go.Vc
namespace Go.Proofs.YtabifopphhpciaaGreatDoor
open Go Go.Vc Go.Vc.Asn Go.Gf
section
variable {w0 w : World} {F Cd : Asn} {p o g n k q f i : Nat} {x : Cl} {y : Opn} {m : Ms} {sc : Slc} {rs : Rws} {t nt : Tg} {L : List (Int × Rp)} {c : Cfg} {id : Int} {cd : Nat} {key : ByteArray} {bs : List UInt8} {l : List Int}
theorem fr3 {A B C D F : Asn} : Ent (star (star A (star B (star C D))) F) (star A (star B (star C (star D F)))) := assoc.trans (Ent.star (Ent.refl _) (assoc.trans (Ent.star (Ent.refl _) assoc)))
theorem to3 {A B C D F : Asn} : Ent (star A (star B (star C (star D F)))) (star (star A (star B (star C D))) F) := (Ent.star (Ent.refl _) ((Ent.star (Ent.refl _) assoc').trans assoc')).trans assoc'
theorem as4 {A B C D E G : Asn} : Ent (star A (star B (star C (star D (star E G))))) (star (star A (star B (star C (star D E)))) G) := (Ent.star (Ent.refl _) ((Ent.star (Ent.refl _) ((Ent.star (Ent.refl _) assoc').trans assoc')).trans assoc')).trans assoc'
end
end Go.Proofs.YtabifopphhpciaaGreatDoor

namespace Go.Proofs.YtabifopphhpciaaGreatDoor
open Go Go.Vc Go.Vc.Asn Go.Gf
section
variable {w0 w : World} {F : Asn} {p o n k q f i tp b10 b13 b124 cd g : Nat} {x : Cl} {y : Opn} {r sO sc I : Slc} {rs os : Rws} {ms : List Ms} {is : List Int} {c : Cfg} {id : Int} {key : ByteArray} {bs : List UInt8} {t nt : Tg} {l : List Int} {a b : Int} {V P s : Slc}
abbrev ResU := Slc × Int × Bool × Int × Int × Int × Slc × Bool
def resU (h : Slc) (R : Rs) (e : Bool) : ResU := (h, R.op, R.put, R.status, R.tag.n, R.tag.c, R.val, e)
def rsB (o2 : Option ResU) (o3 : Option Nat) (o4 : Option Unit) (F : Asn) : Asn :=
  match o3, o4, o2 with
  | none, _, _ => F
  | some b, none, _ => star (bk b Ty_api_Result #[.int .i64 0, .bool false, .int .i64 0, .int .i64 0, .int .i64 0, Slc.nil.v]) F
  | some b, some _, some (_, O, P, S, C, D, V, _) => star (bk b Ty_api_Result #[.int .i64 O, .bool P, .int .i64 S, .int .i64 C, .int .i64 D, V.v]) F
  | some _, some _, none => F
end
end Go.Proofs.YtabifopphhpciaaGreatDoor

namespace Go.Vc
structure OpSt (b : Bool) (c : Cfg) (id : Int) (cd o : Nat) (key : ByteArray) (bs : List UInt8) (nt : Tg) (f : Nat) (x : Cl) (y : Opn) : Prop where
  cfg : x.cfg = c
  id_ : x.id = id
  cd_ : x.cd = cd
  now : x.now = some o
  stg : y.stg = stgOf f
  op : y.op = 1
  put : y.put = b
  key_ : y.key = key
  bs_ : y.bs = bs
  tag : f ≠ 0 → y.tag = nt
  used : f = 0 → (llook x.used key).getD 0 = 0
  get : b = false → f = 0
end Go.Vc
namespace Go.Proofs.YtabifopphhpciaaGreatDoor
open Go Go.Vc Go.Vc.Asn Go.Gf
section
variable {w0 w : World} {F Cd : Asn} {p o : Nat} {x : Cl} {y : Opn} {r r' : Slc} {ms ms' : List Ms} {m m' : Ms}
abbrev plV (x : Pl) : Value := .pointer (some (blk x.b))
theorem townF_c {a b : Int} : Calls PP F_sherdlaw18_town #[.int .i64 a, .int .i64 b] w (Rt fun v w' => ∃ (tp : Nat) (N K : Int) (sv : Slc) (xs : List Pl), v = .pointer (some (blk tp)) ∧ 1 ≤ N ∧ N ≤ 7 ∧ 1 ≤ K ∧ K ≤ N ∧ (xs.length : Int) = N ∧ (∀ x ∈ xs, x.abs = []) ∧
    Hp w w' (star (bk tp Ty_sherdlaw18_Town #[.int .i64 N, .int .i64 K, .int .i64 0, Slc.v sv]) (star (own Ty_p_sherdlaw18_Plain 1 sv (xs.map plV)) (star (all plA xs) emp)))) := by
  refine sim_sherdlaw18_town _ _ _ _ ?_
  unfold vc_sherdlaw18_town
  refine call (mod_c (by decide) (by decide)) ?_
  rintro _ w9 ⟨rfl, hw⟩
  rw [hw]
  clear hw
  have hb := modI_bounds (k := a) (n := 7) (by decide)
  refine ⟨_, rfl, ?_⟩
  rw [wr64 (n := modI a 7 + 1) (by omega) (by omega)]
  generalize hN : modI a 7 + 1 = N
  refine nw fun tp w1 H _ => call (mod_c (by omega) (by omega)) ?_
  rintro _ _ ⟨rfl, rfl⟩
  have hb2 := modI_bounds (k := b) (n := N) (by omega)
  refine ⟨_, rfl, H.sto2 (b := tp) (i := 0) (j := 1) (by simp) fun w2 H => ?_⟩
  rw [wr64 (n := modI b N + 1) (by omega) (by omega)] at H
  generalize hK : modI b N + 1 = K at H
  refine ⟨fun i w' => ∃ (q : Nat) (sv : Slc) (xs : List Pl), i = (q : Int) ∧ (q : Int) ≤ N ∧ xs.length = q ∧ (∀ x ∈ xs, x.abs = []) ∧ Hp w w' (star (bk tp Ty_sherdlaw18_Town #[.int .i64 N, .int .i64 K, .int .i64 0, Slc.v sv]) (star (own Ty_p_sherdlaw18_Plain 1 sv (xs.map plV)) (star (all plA xs) emp))), fun i _ => (N - i).toNat, ⟨0, Slc.nil, [], rfl, by omega, rfl, by simp, ?_⟩, ?_⟩
  · exact (((H.blk tp).ent (Ent.star (Ent.refl _) emp_l)).nilRow _ 1).swap
  clear H
  rintro _ w3 ⟨q, sv, xs, rfl, hq, hxl, hxe, H⟩
  refine ⟨_, H.cell2 (b := tp) (i := 0) (j := 0) rfl, fun h => ?_, fun h => ?_⟩
  · have h := of_decide_eq_true h
    have e1 : wr .i64 ((q : Int) + 1) = ((q + 1 : Nat) : Int) := by rw [wr64 (by omega) (by omega)]; omega
    have hsl : sv.l = xs.length := by
      have := (H.cel (s := sv)).len
      rw [List.length_map] at this
      omega
    refine ⟨_, H.cell (b := tp) (i := 3) rfl, H.new fun b30 w4 H => H.newRow (e := Ty_p_sherdlaw18_Plain) (n := 1) (size := 1) [.pointer (some (blk b30))] rfl rfl (by decide) fun b33 w5 H => ?_⟩
    refine H.app (s := sv) slT_sl_p_sherdlaw18_Plain (H.cel (s := ⟨some (blk b33), 1, 1⟩)) (fun u hu => by rw [List.mem_singleton.1 hu]; rfl) (by unfold maxLen; simp only; omega) (by simp only; omega) fun s' w6 H _ => ?_
    refine H.sto (b := tp) (i := 3) (by simp) fun w7 H => ⟨⟨q + 1, s', xs ++ [⟨b30, Slc.nil, []⟩], e1, by omega, by simp [hxl], fun u hu => ?_, ?_⟩, by rw [e1]; dsimp only; omega⟩
    · rcases List.mem_append.1 hu with hu | hu
      · exact hxe u hu
      · rw [List.mem_singleton.1 hu]; rfl
    · have H := (((H.own ⟨some (blk b33), 1, 1⟩).drop.blk b30).nilRow Ty_sherdlaw18_Held 5).swap
      have H := pl_close (x := ⟨b30, Slc.nil, []⟩) (H.ent (Ent.star (Ent.refl _) (Ent.star (Ent.refl _) emp_l)))
      have H := ((H.take (all plA xs)).take (plA ⟨b30, Slc.nil, []⟩)).assoc'.ent (Ent.star (all_snoc1 plA ⟨b30, Slc.nil, []⟩ xs) (Ent.refl _))
      rw [List.map_append]
      exact (H.own s').blk tp
  · have h := of_decide_eq_false h
    exact Rt.ok ⟨tp, N, K, sv, xs, rfl, by omega, by omega, by omega, by omega, by omega, hxe, H⟩
theorem handleNo_c (hnow : x.now = some o) (hcount : countsB x y m = false) (H : Hp w0 w (star (cliA p x) (star (opnA o y) F))) :
    Calls PP F_client_Client_Handle #[.pointer (some (blk p)), .agg m.c.toArray] w (Rt fun v w' => v = .tuple #[Slc.v Slc.nil, Rs.no.v, .bool false] ∧ Fr [] w w') := by
  refine sim_client_Client_Handle _ _ _ _ _ _ _ _ _ _ _ _ _ _ ?_
  unfold vc_client_Client_Handle
  refine nw fun b14 w1 J f1 => J.new fun b17 w2 J => ⟨fun b w' => b = true ∧ Hp w w' (star (bk b17 Ty_api_Result #[.int .i64 0, .bool false, .int .i64 0, .int .i64 0, .int .i64 0, Slc.nil.v]) emp), ⟨fun _ => call (counts_c (m := m) hnow (H.fr0 J.fr)) ?_, fun h => by simp at h⟩, ?_⟩
  · rintro _ w3 ⟨rfl, f3⟩
    exact ⟨_, rfl, by rw [hcount]; rfl, ((J.fr0 f3).blk b14).drop⟩
  clear J
  rintro _ w3 ⟨rfl, J⟩
  exact ⟨fun _ => J.stoAll (b := b17) (by rfl) fun w8 J => ⟨_, J.cell (b := b17) (i := 0) rfl, _, J.cell (b := b17) (i := 1) rfl, _, J.cell (b := b17) (i := 2) rfl, _, J.cell (b := b17) (i := 3) rfl, _, J.cell (b := b17) (i := 4) rfl, _, J.cell (b := b17) (i := 5) rfl, Rt.ok ⟨rfl, J.fr⟩⟩, fun h => (nomatch h)⟩
theorem nowIdle_c (hnow : x.now = none) (H : Hp w0 w (star (cliA p x) F)) : Calls PP F_client_Client_Now #[.pointer (some (blk p))] w (Rt fun v w' => v = .tuple #[.int .i64 0, .bool false, .string (ByteArray.mk #[]), .agg #[.int .i64 0, .int .i64 0], .int .i64 0, .int .i64 71] ∧ Fr [] w w') := by
  obtain ⟨gm, H⟩ := cl_open H
  refine sim_client_Client_Now _ _ _ ?_
  unfold vc_client_Client_Now
  refine nw fun b3 w4 J f1 => ⟨fun h => by simp at h, fun _ => ⟨_, rfl, _, (H.fr0 f1).cell (b := p) (i := 7) rfl, fun _ => J.stoAll (b := b3) (by rfl) fun w5 J => ⟨_, J.cell (b := b3) (i := 0) rfl, _, J.cell (b := b3) (i := 1) rfl, Rt.ok ⟨rfl, J.fr⟩⟩, fun h => by simp [hnow] at h⟩⟩
theorem get_c {g n k : Nat} {sc : Slc} {rs : Rws} {key : ByteArray} (hC : ∀ {w' : World} {A' : Asn}, Hp w0 w' (star Cd A') → RdCode w' x.cd g sc rs n k) (hc : x.cfg.Ok) (hn : x.cfg.N = (n : Int)) (hn2 : n ≤ 255) (hnow : x.now = none) (h0 : 0 ≤ x.ops) (h1 : x.ops < 4611686018427387903) (hk : 1 ≤ key.size) (hk2 : key.size ≤ 64)
    (H : Hp w0 w (star (cliA p x) (star Cd F))) :
    Calls PP F_client_Client_Get #[.pointer (some (blk p)), .string key] w (Rt fun z w' => ∃ o val ph r ms, z = .tuple #[.int .i64 (x.ops + 1), Slc.v r, .int .i64 0] ∧ ms.map Ms.abs = (allOf n).map (reqOf x.id ⟨x.ops + 1, false, key, val, [], .ask, Tg.zero, ph⟩ (partOf rs [] k)) ∧
      Hp w0 w' (star (msgsA r ms) (star (cliA p { x with ops := x.ops + 1, now := some o }) (star (opnA o ⟨x.ops + 1, false, key, val, [], .ask, Tg.zero, ph⟩) (star (phA ph (x.cfg, [])) (star Cd F)))))) := by
  refine sim_client_Client_Get _ _ _ _ ?_
  unfold vc_client_Client_Get
  refine ⟨fun h => by simp at h, fun _ => call (begin_c (v := Slc.nil) (bs := []) (b := false) (Vp := own Ty_uint8 1 Slc.nil []) hC (fun H => H.cel (s := Slc.nil)) hc hn hn2 hnow h0 h1 hk hk2 (by decide) (H.nilRow Ty_uint8 1).swap) ?_⟩
  rintro _ w1 ⟨o, val, ph, r, ms, rfl, hms, H⟩
  exact ⟨_, _, _, rfl, Rt.ok ⟨o, val, ph, r, ms, rfl, hms, (H.take (own Ty_uint8 1 Slc.nil [])).drop⟩⟩
def Rs.absent (op : Int) : Rs := ⟨op, false, 76, Tg.zero, Slc.nil⟩
theorem chosenNo_c (hnow : x.now = some o) (hput : y.put = false) (H : Hp w0 w (star (cliA p x) (star (opnA o y) F))) :
    Calls PP F_client_Client_chosen #[.pointer (some (blk p)), Tg.zero.v] w (Rt fun v w' => v = .tuple #[Slc.v Slc.nil, (Rs.absent y.op).v, .bool true] ∧ Hp w0 w' (star (cliA p { x with now := none }) (star (opnA o y) F))) := by
  have hp1 : w.cell? ((blk p).add 7) = some (.pointer (some (blk o))) := rd_now (x := x) H hnow
  refine sim_client_Client_chosen _ _ _ _ _ ?_
  unfold vc_client_Client_chosen
  refine H.new fun b5 w1 H => H.new fun b8 w2 H => ⟨_, rfl, _, rd_now (x := x) H hnow, _, rfl, _, (op_open (H.take (opnA o y))).cell (b := o) (i := 1) rfl, fun _ => call (zero_c (t := Tg.zero)) ?_, fun h => by rw [hput] at h; exact nomatch h⟩
  rintro _ w3 ⟨rfl, f3⟩
  have H := H.fr0 f3
  refine ⟨_, rfl, fun _ => call (end_c (t := Tg.zero) (v := Slc.nil) (e := 76) hnow ((H.take (opnA o y)).take (cliA p x))) ?_, fun h => absurd h (by decide)⟩
  rintro _ w4 ⟨rfl, H⟩
  refine ⟨_, _, _, _, _, _, _, rfl, H.new fun b35 w5 H => H.stoAll (b := b35) (by rfl) fun w6 H => ?_⟩
  have H := H.drew 1
  refine ⟨_, H.cell (b := b35) (i := 0) rfl, _, H.cell (b := b35) (i := 1) rfl, _, H.cell (b := b35) (i := 2) rfl, _, H.cell (b := b35) (i := 3) rfl, _, H.cell (b := b35) (i := 4) rfl, _, H.cell (b := b35) (i := 5) rfl, H.stoAll (b := b8) (by rfl) fun w7 H => ⟨_, H.cell (b := b8) (i := 0) rfl, _, H.cell (b := b8) (i := 1) rfl, _, H.cell (b := b8) (i := 2) rfl, _, H.cell (b := b8) (i := 3) rfl, _, H.cell (b := b8) (i := 4) rfl, _, H.cell (b := b8) (i := 5) rfl, Rt.ok ⟨?_, ?_⟩⟩⟩
  · rw [hput]; rfl
  · exact ((((H.blk b35).drop.blk b8).drop.blk b5).drop.take (opnA o y)).take (cliA p { x with now := none })
theorem metNo_c {c : Cfg} {L : List (Int × Rp)} (hnow : x.now = some o) (hs : y.stg = .ask) (hL : L.length ≤ 255) (ht : topOf L L.length = Tg.zero) (hput : y.put = false)
    (H : Hp w0 w (star (cliA p x) (star (opnA o y) (star (phA y.ph (c, L)) F)))) :
    Calls PP F_client_Client_met #[.pointer (some (blk p))] w (Rt fun v w' => v = .tuple #[Slc.v Slc.nil, (Rs.absent y.op).v, .bool true] ∧ Hp w0 w' (star (cliA p { x with now := none }) (star (opnA o y) (star (phA y.ph (c, L)) F)))) := by
  refine sim_client_Client_met _ _ _ ?_
  unfold vc_client_Client_met
  refine H.new fun b3 w1 H => ⟨_, rfl, _, rd_now (x := x) H hnow, H.new fun b11 w2 H => ⟨fun _ _ => False, ⟨_, rfl, _, rd_stg (y := y) H, tasA ⟨_, rfl, fun _ => ?_, fun h => ?_⟩⟩, fun _ _ h => h.elim⟩⟩
  · refine call (top_c hL ((H.take (phA y.ph (c, L))).take (opnA o y))) ?_
    rintro _ w3 ⟨rfl, H⟩
    rw [ht]
    refine ⟨_, _, rfl, call (chosenNo_c hnow hput ((H.take (opnA o y)).take (cliA p x))) ?_⟩
    rintro _ w4 ⟨rfl, H⟩
    refine ⟨_, _, _, _, _, _, _, _, rfl, H.stoAll (b := b3) (by rfl) fun w5 H => ⟨_, H.cell (b := b3) (i := 0) rfl, _, H.cell (b := b3) (i := 1) rfl, _, H.cell (b := b3) (i := 2) rfl, _, H.cell (b := b3) (i := 3) rfl, _, H.cell (b := b3) (i := 4) rfl, _, H.cell (b := b3) (i := 5) rfl, Rt.ok ⟨rfl, ?_⟩⟩⟩
    have H := ((H.blk b3).drop.blk b11).drop
    exact ((H.take (phA y.ph (c, L))).take (opnA o y)).take (cliA p { x with now := none })
  · rw [hs] at h
    exact absurd h (by decide)
end
section
variable {w0 w : World} {F Cd : Asn} {p o g n k q f i : Nat} {x : Cl} {y : Opn} {m : Ms} {sc : Slc} {rs : Rws} {t nt : Tg} {L : List (Int × Rp)} {c : Cfg} {id : Int} {cd : Nat} {key : ByteArray} {bs : List UInt8} {l : List Int} {b : Bool}
theorem Came.again (h : Came l i t L) {j : Int} (hj : j ∈ L.map (·.1)) {r : Rp} (hr : r.top = t) : Came l i t (lput L j r) := by
  unfold lput
  rw [if_pos hj]
  refine ⟨?_, fun x hx => ?_⟩
  · rw [← h.keys, List.map_map]
    refine List.map_congr_left fun x _ => ?_
    show (if x.1 = j then (x.1, r) else x).1 = x.1
    split <;> rfl
  · obtain ⟨z, hz, rfl⟩ := List.mem_map.1 hx
    split
    · exact hr
    · exact h.top _ hz
end
end Go.Proofs.YtabifopphhpciaaGreatDoor

namespace Go.Proofs.YtabifopphhpciaaGreatDoor
open Go Go.Vc Go.Vc.Asn Go.Gf
abbrev Lb := List (Int × Rp × List UInt8)
abbrev lr (L : Lb) : List (Int × Rp) := L.map fun z => (z.1, z.2.1)
def rdD (z : Int × Rp × List UInt8) : Asn := own Ty_uint8 1 z.2.1.data (z.2.2.map u8v)
section
variable {w0 w : World} {F Cd Vp : Asn} {p o g n k : Nat} {x : Cl} {y : Opn} {m : Ms} {sc : Slc} {rs : Rws} {t : Tg} {L : Lb}
theorem chosenGet_c (hC : ∀ {w' : World} {A' : Asn}, Hp w0 w' (star Cd A') → RdCode w' x.cd g sc rs n k) (hc : x.cfg.Ok) (hn : x.cfg.N = (n : Int)) (hn2 : n ≤ 255) (hb : y.bs.length ≤ 65536) (hnow : x.now = some o) (hput : y.put = false) (ht : t ≠ Tg.zero)
    (H : Hp w0 w (star (cliA p x) (star (opnA o y) (star Cd F)))) :
    Calls PP F_client_Client_chosen #[.pointer (some (blk p)), t.v] w (Rt fun v w' => ∃ ph r ms, v = .tuple #[Slc.v r, Rs.no.v, .bool false] ∧ ms.map Ms.abs = (allOf n).map (reqOf x.id { y with stg := .read, tag := t, ph := ph } (partOf rs y.bs k)) ∧
      Hp w0 w' (star (msgsA r ms) (star (cliA p x) (star (opnA o { y with stg := .read, tag := t, ph := ph }) (star (phA ph (x.cfg, [])) (star Cd F)))))) := by
  refine sim_client_Client_chosen _ _ _ _ _ ?_
  unfold vc_client_Client_chosen
  refine H.new fun b5 w1 H => H.new fun b8 w2 H => ⟨_, rfl, _, rd_now (x := x) H hnow, _, rfl, _, (op_open (H.take (opnA o y))).cell (b := o) (i := 1) rfl, fun _ => call (zero_c (t := t)) ?_, fun h => by rw [hput] at h; exact nomatch h⟩
  rintro _ w3 ⟨rfl, f3⟩
  have H := H.fr0 f3
  refine ⟨_, rfl, fun h => absurd (of_decide_eq_true h) ht, fun _ => ⟨_, H.cell (b := b5) (i := 0) rfl, _, H.cell (b := b5) (i := 1) rfl, ?_⟩⟩
  have H : Hp w0 w3 (star (opnR o y (stgV y.stg) (.pointer (some (blk y.ph)))) _) := (H.take Cd).take (opnA o y)
  refine call (enter_c (st := .read) (t := t) hC hc hn hn2 hb hnow (H.take (cliA p x))) ?_
  rintro _ w4 ⟨ph, r, ms, rfl, hms, H⟩
  refine ⟨_, rfl, H.stoAll (b := b8) (by rfl) fun w5 H => ⟨_, H.cell (b := b8) (i := 0) rfl, _, H.cell (b := b8) (i := 1) rfl, _, H.cell (b := b8) (i := 2) rfl, _, H.cell (b := b8) (i := 3) rfl, _, H.cell (b := b8) (i := 4) rfl, _, H.cell (b := b8) (i := 5) rfl, Rt.ok ⟨ph, r, ms, rfl, hms, ?_⟩⟩⟩
  exact ((H.blk b8).drop.blk b5).drop
theorem metAskGet_c {c : Cfg} {L : List (Int × Rp)} (hC : ∀ {w' : World} {A' : Asn}, Hp w0 w' (star Cd A') → RdCode w' x.cd g sc rs n k) (hc : x.cfg.Ok) (hn : x.cfg.N = (n : Int)) (hn2 : n ≤ 255) (hb : y.bs.length ≤ 65536) (hnow : x.now = some o) (hs : y.stg = .ask) (hL : L.length ≤ 255) (ht : topOf L L.length = t) (hput : y.put = false) (ht0 : t ≠ Tg.zero)
    (H : Hp w0 w (star (cliA p x) (star (opnA o y) (star (phA y.ph (c, L)) (star Cd F))))) :
    Calls PP F_client_Client_met #[.pointer (some (blk p))] w (Rt fun v w' => ∃ ph r ms, v = .tuple #[Slc.v r, Rs.no.v, .bool false] ∧ ms.map Ms.abs = (allOf n).map (reqOf x.id { y with stg := .read, tag := t, ph := ph } (partOf rs y.bs k)) ∧
      Hp w0 w' (star (msgsA r ms) (star (cliA p x) (star (opnA o { y with stg := .read, tag := t, ph := ph }) (star (phA ph (x.cfg, [])) (star Cd (star (phA y.ph (c, L)) F))))))) := by
  refine sim_client_Client_met _ _ _ ?_
  unfold vc_client_Client_met
  refine H.new fun b3 w1 H => ⟨_, rfl, _, rd_now (x := x) H hnow, H.new fun b11 w2 H => ⟨fun _ _ => False, ⟨_, rfl, _, rd_stg (y := y) H, tasA ⟨_, rfl, fun _ => ?_, fun h => ?_⟩⟩, fun _ _ h => h.elim⟩⟩
  · refine call (top_c hL ((H.take (phA y.ph (c, L))).take (opnA o y))) ?_
    rintro _ w3 ⟨rfl, H⟩
    rw [ht]
    refine ⟨_, _, rfl, call (chosenGet_c hC hc hn hn2 hb hnow hput ht0 (((H.take Cd).take (opnA o y)).take (cliA p x))) ?_⟩
    rintro _ w4 ⟨ph, r, ms, rfl, hms, H⟩
    refine ⟨_, _, _, _, _, _, _, _, rfl, H.stoAll (b := b3) (by rfl) fun w5 H => ⟨_, H.cell (b := b3) (i := 0) rfl, _, H.cell (b := b3) (i := 1) rfl, _, H.cell (b := b3) (i := 2) rfl, _, H.cell (b := b3) (i := 3) rfl, _, H.cell (b := b3) (i := 4) rfl, _, H.cell (b := b3) (i := 5) rfl, Rt.ok ⟨ph, r, ms, rfl, hms, ?_⟩⟩⟩
    exact ((H.blk b3).drop.blk b11).drop
  · rw [hs] at h
    exact absurd h (by decide)
abbrev rdR' (m : Ms) (s : Slc) : Int × Rp × List UInt8 := (m.sv, ⟨m.top, m.has, s⟩, if m.has then m.bs else [])
theorem read_valid (hs : y.stg = .read) (h : countsB x y m = true) : m.top.valid = true := by
  unfold countsB goodB at h
  rw [hs] at h
  simp only [Bool.and_eq_true] at h
  exact h.2.2.2
theorem lr_put {s : Slc} (hnew : m.sv ∉ (lr L).map (·.1)) : lput (lr L) m.sv ⟨m.top, m.has, s⟩ = lr (L ++ [rdR' m s]) := by
  rw [lput_new hnew]
  unfold lr
  rw [List.map_append]
  rfl
theorem handleR_c {Pm : Slc → Rs → Bool → Asn → Prop} (hV : ∀ {w' : World} {A' : Asn}, Hp w0 w' (star Vp A') → Byt w' m.data m.bs) (hb : m.bs.length ≤ 1099511627776) (hc : x.cfg.Ok) (hnow : x.now = some o) (hcount : countsB x y m = true) (hr : y.stg = .read) (hnew : m.sv ∉ (lr L).map (·.1))
    (met : (x.cfg.N + x.cfg.K + 1) / 2 ≤ (L.length + 1 : Int) → ∀ (s : Slc) (w : World) (F : Asn), Hp w0 w (star (cliA p x) (star (opnA o y) (star (phA y.ph (x.cfg, lr (L ++ [rdR' m s]))) (star (all rdD (L ++ [rdR' m s])) (star Cd F))))) →
      Calls PP F_client_Client_met #[.pointer (some (blk p))] w (Rt fun v w' => ∃ r R e A', v = .tuple #[Slc.v r, Rs.v R, .bool e] ∧ Pm r R e A' ∧ Hp w0 w' (star A' F)))
    (H : Hp w0 w (star (cliA p x) (star (opnA o y) (star (phA y.ph (x.cfg, lr L)) (star (all rdD L) (star Vp (star Cd F))))))) :
    Calls PP F_client_Client_Handle #[.pointer (some (blk p)), .agg m.c.toArray] w (Rt fun v w' =>
      ((L.length + 1 : Int) < (x.cfg.N + x.cfg.K + 1) / 2 ∧ v = .tuple #[Slc.v Slc.nil, Rs.no.v, .bool false] ∧ ∃ s, Hp w0 w' (star (cliA p x) (star (opnA o y) (star (phA y.ph (x.cfg, lr (L ++ [rdR' m s]))) (star (all rdD (L ++ [rdR' m s])) (star Cd (star Vp F))))))) ∨
      ((x.cfg.N + x.cfg.K + 1) / 2 ≤ (L.length + 1 : Int) ∧ ∃ r R e A', v = .tuple #[Slc.v r, Rs.v R, .bool e] ∧ Pm r R e A' ∧ Hp w0 w' (star A' (star Vp F)))) := by
  refine sim_client_Client_Handle _ _ _ _ _ _ _ _ _ _ _ _ _ _ ?_
  unfold vc_client_Client_Handle
  refine H.new fun b14 w1 H => H.new fun b17 w2 H => ⟨fun b w' => b = false ∧ Hp w0 w' (haA p o b14 b17 x y (lr L) m (star (all rdD L) (star Vp (star Cd F)))), ⟨fun _ => call (counts_c (m := m) hnow (((H.take (opnA o y)).take (cliA p x)))) ?_, fun h => by simp at h⟩, ?_⟩
  · rintro _ w3 ⟨rfl, f3⟩
    exact ⟨_, rfl, by rw [hcount]; rfl, H.fr0 f3⟩
  clear H
  rintro _ w3 ⟨rfl, H⟩
  obtain ⟨hs0, hs1⟩ := counts_sv hcount
  have htv := read_valid hr hcount
  refine ⟨fun h => by simp at h, fun _ => ⟨_, rfl, _, rd_now (x := x) H hnow, _, rfl, ?_⟩⟩
  have H := H.drew 1
  have hR : (llook (lr L) m.sv).getD Rp.no = Rp.no := by rw [llook_notin hnew]; rfl
  refine ⟨some (blk y.ph), m.sv, fun o1 o3 o4 w' => (o1 = none ∨ o1 = some (0, 0, false, Slc.nil, (llook (lr L) m.sv).isSome)) ∧ Hp w0 w' (haB o3 o4 Rp.no (haA p o b14 b17 x y (lr L) m (star (all rdD L) (star Vp (star Cd F))))), ⟨.inl rfl, H⟩, ?_, ?_, ?_, ?_, ?_, ?_⟩
  · rintro (_ | b) w4 ⟨_, H⟩
    · have H : Hp w0 w4 (haA p o b14 b17 x y (lr L) m (star (all rdD L) (star Vp (star Cd F)))) := H
      exact rd_ph (y := y) H
    · have H : Hp w0 w4 (star (bk b Ty_client_reply #[.int .i64 0, .int .i64 0, .bool false, Slc.nil.v]) (haA p o b14 b17 x y (lr L) m (star (all rdD L) (star Vp (star Cd F))))) := H
      exact rd_ph (y := y) H
  · rintro (_ | b) w4 ⟨_, H⟩
    · have H : Hp w0 w4 (haA p o b14 b17 x y (lr L) m (star (all rdD L) (star Vp (star Cd F)))) := H
      exact H.cell (b := b14) (i := 2) rfl
    · have H : Hp w0 w4 (star (bk b Ty_client_reply #[.int .i64 0, .int .i64 0, .bool false, Slc.nil.v]) (haA p o b14 b17 x y (lr L) m (star (all rdD L) (star Vp (star Cd F))))) := H
      exact H.cell (b := b14) (i := 2) rfl
  · rintro (_ | b) w4 ⟨_, H⟩
    · have H' : Hp w0 w4 (haA p o b14 b17 x y (lr L) m (star (all rdD L) (star Vp (star Cd F)))) := H
      refine call (pget_c (s := m.sv) (H'.take (phA y.ph (x.cfg, lr L)))) ?_
      rintro _ w5 ⟨rfl, f5⟩
      rw [hR]
      exact ⟨_, _, _, _, _, rfl, .inr rfl, H.fr0 f5⟩
    · have H' : Hp w0 w4 (star (bk b Ty_client_reply #[.int .i64 0, .int .i64 0, .bool false, Slc.nil.v]) (haA p o b14 b17 x y (lr L) m (star (all rdD L) (star Vp (star Cd F))))) := H
      refine call (pget_c (s := m.sv) (H'.take (phA y.ph (x.cfg, lr L)))) ?_
      rintro _ w5 ⟨rfl, f5⟩
      rw [hR]
      exact ⟨_, _, _, _, _, rfl, .inr rfl, H.fr0 f5⟩
  · rintro o1 w4 ⟨h1, H⟩
    have H : Hp w0 w4 (haA p o b14 b17 x y (lr L) m (star (all rdD L) (star Vp (star Cd F)))) := H
    exact H.new fun b w5 H => ⟨h1, H⟩
  · rintro C64 C65 h66 d67 G68 b w4 ⟨h1, H⟩
    have H : Hp w0 w4 (star (bk b Ty_client_reply #[.int .i64 0, .int .i64 0, .bool false, Slc.nil.v]) (haA p o b14 b17 x y (lr L) m (star (all rdD L) (star Vp (star Cd F))))) := H
    obtain ⟨rfl, rfl, rfl, rfl, rfl⟩ : C64 = 0 ∧ C65 = 0 ∧ h66 = false ∧ d67 = Slc.nil ∧ G68 = (llook (lr L) m.sv).isSome := by simpa using h1
    exact H.stoAll (b := b) (by rfl) fun w5 H => ⟨h1, H⟩
  · rintro C64 C65 h66 d67 G68 b w4 ⟨h1, H⟩
    have H : Hp w0 w4 (star (bk b Ty_client_reply #[.int .i64 0, .int .i64 0, .bool false, Slc.nil.v]) (haA p o b14 b17 x y (lr L) m (star (all rdD L) (star Vp (star Cd F))))) := H
    refine ⟨fun w' => ∃ s, Hp w0 w' (star (bk b Ty_client_reply #[.int .i64 m.top.n, .int .i64 m.top.c, .bool m.has, Slc.v s]) (star (own Ty_uint8 1 s ((if m.has then m.bs else []).map u8v)) (haA p o b14 b17 x y (lr L) m (star (all rdD L) (star Vp (star Cd F)))))), ⟨_, rd_stg (y := y) H, tasA ⟨_, rfl, fun hA => ?_, fun hA => tasR ⟨_, rfl, fun _ => ?_, fun h => ?_⟩⟩⟩, ?_⟩
    · rw [hr] at hA; exact absurd hA (by decide)
    · refine ⟨_, H.cell2 (b := b) (i := 0) (j := 0) rfl, _, H.cell2 (b := b) (i := 0) (j := 1) rfl, _, H.cell2 (b := b14) (i := 7) (j := 0) rfl, _, H.cell2 (b := b14) (i := 7) (j := 1) rfl, ?_⟩
      refine H.newRow (e := Ty_api_Tag) (n := 2) (size := 2) (Tg.zero.cells ++ m.top.cells) rfl rfl (by decide) fun b172 w5 H => ?_
      refine call (tmax_c (H.cel (s := ⟨some (blk b172), 2, 2⟩))) ?_
      rintro _ w6 ⟨rfl, f6⟩
      have H := (H.fr0 f6).drop
      rw [Tg.max_zero htv]
      refine ⟨_, _, rfl, StoN.two (H.sto2 (b := b) (i := 0) (j := 0) (by simp) fun w7 H => H.sto2 (b := b) (i := 0) (j := 1) (by simp) fun w8 H => ?_)⟩
      refine ⟨_, H.cell (b := b14) (i := 9) rfl, m.has, fun h => ⟨_, H.cell (b := b) (i := 2) rfl, by rw [h]; rfl⟩, fun h => h, fun h => ?_, fun h => ?_⟩
      · refine ⟨_, H.cell (b := b14) (i := 10) rfl, call (bclone_c (hV (H.take Vp)) hb) ?_⟩
        rintro _ w9 ⟨s, rfl, J⟩
        have H := H.join J
        refine ⟨_, rfl, H.sto (b := b) (i := 2) (by simp) fun w10 H => H.sto (b := b) (i := 3) (by simp) fun w11 H => ⟨s, ?_⟩⟩
        rw [h, if_pos rfl]
        exact (H.own s).blk b
      · refine ⟨Slc.nil, ?_⟩
        rw [h, if_neg (by decide)]
        exact ((H.blk b).nilRow Ty_uint8 1).swap
    · rw [hr] at h; exact absurd h (by decide)
    · rintro w5 ⟨s, H⟩
      have H := H.drew 1
      refine ⟨_, rd_ph (y := y) H, _, H.cell (b := b14) (i := 2) rfl, _, H.cell (b := b) (i := 0) rfl, _, H.cell (b := b) (i := 1) rfl, _, H.cell (b := b) (i := 2) rfl, _, H.cell (b := b) (i := 3) rfl, ?_⟩
      refine call (panswer_c (r := ⟨m.top, m.has, s⟩) hs0 hs1 (H.take (phA y.ph (x.cfg, lr L)))) ?_
      rintro _ w6 ⟨rfl, H⟩
      rw [lr_put hnew] at H
      have hll : ((lr (L ++ [rdR' m s])).length : Int) = (L.length + 1 : Int) := by unfold lr; simp
      refine ⟨_, _, rfl, _, rd_ph (y := y) H, call (pmet_c hc H) ?_⟩
      rintro _ w7 ⟨rfl, f7⟩
      rw [hll]
      have H := (((H.fr0 f7).blk b).drop.take (all rdD L)).own s
      have H : Hp w0 w7 (star (rdD (rdR' m s)) _) := H
      have H := H.assoc'.ent (Ent.star (all_snoc1 rdD (rdR' m s) L) (Ent.refl _))
      refine ⟨_, rfl, fun h => ?_, fun h => ?_⟩
      · have hq : (L.length + 1 : Int) < (x.cfg.N + x.cfg.K + 1) / 2 := by
          have h : decide ((x.cfg.N + x.cfg.K + 1) / 2 ≤ (L.length + 1 : Int)) = false := by simpa using h
          have := of_decide_eq_false h
          omega
        refine H.stoAll (b := b17) (by rfl) fun w8 H => ⟨_, H.cell (b := b17) (i := 0) rfl, _, H.cell (b := b17) (i := 1) rfl, _, H.cell (b := b17) (i := 2) rfl, _, H.cell (b := b17) (i := 3) rfl, _, H.cell (b := b17) (i := 4) rfl, _, H.cell (b := b17) (i := 5) rfl, Rt.ok (.inl ⟨hq, rfl, s, ?_⟩)⟩
        have H := ((H.blk b17).drop.blk b14).drop
        exact (((((H.take Vp).take Cd).take (all rdD (L ++ [rdR' m s]))).take (phA y.ph (x.cfg, lr (L ++ [rdR' m s])))).take (opnA o y)).take (cliA p x)
      · have hq : (x.cfg.N + x.cfg.K + 1) / 2 ≤ (L.length + 1 : Int) := by
          have h : decide ((x.cfg.N + x.cfg.K + 1) / 2 ≤ (L.length + 1 : Int)) = true := by simpa using h
          exact of_decide_eq_true h
        have H := (H.blk b14).drop
        have H := ((((H.take Cd).take (all rdD (L ++ [rdR' m s]))).take (phA y.ph (x.cfg, lr (L ++ [rdR' m s])))).take (opnA o y)).take (cliA p x)
        refine call (met hq s _ _ H) ?_
        rintro _ w8 ⟨r2, R, e, A', rfl, hP, H⟩
        refine ⟨_, _, _, _, _, _, _, _, rfl, H.stoAll (b := b17) (by rfl) fun w9 H => ⟨_, H.cell (b := b17) (i := 0) rfl, _, H.cell (b := b17) (i := 1) rfl, _, H.cell (b := b17) (i := 2) rfl, _, H.cell (b := b17) (i := 3) rfl, _, H.cell (b := b17) (i := 4) rfl, _, H.cell (b := b17) (i := 5) rfl, Rt.ok (.inr ⟨hq, r2, R, e, A', rfl, hP, ?_⟩)⟩⟩
        exact (((H.blk b17).drop.take Vp).take A')
end
end Go.Proofs.YtabifopphhpciaaGreatDoor

namespace Go
section
variable {P : Program} (w : World)
theorem run_equalIn_iface_int (d : Nat) {ti tn : TypeId} {ms : Array (String × TypeId)} {i : TypeInfo} {k : IntKind} (a b : Int)
    (hi : P.underlying ti = some (.interface ms)) (hn : P.underlying tn = some (.int k)) (hinfo : P.info? tn = some i) (hcomp : i.comparable = true) :
    (Op.equalIn (d + 2) ti (.iface tn (.int k a)) (.iface tn (.int k b))).run P w = .ok (a == b) w := by
  simp [Op.equalIn, run_underlying hi, run_underlying hn, typeInfo, hinfo, hcomp]
theorem run_eql_iface_int {ti tn : TypeId} {ms : Array (String × TypeId)} {i : TypeInfo} {k : IntKind} (a b : Int)
    (hi : P.underlying ti = some (.interface ms)) (hn : P.underlying tn = some (.int k)) (hinfo : P.info? tn = some i) (hcomp : i.comparable = true) :
    (binOp .eql ti (.iface tn (.int k a)) (.iface tn (.int k b))).run P w = .ok (.bool (a == b)) w := by
  simp only [binOp]
  simp [Op.equal, Op.maxDepth, run_equalIn_iface_int w 9998 a b hi hn hinfo hcomp]
end
end Go
namespace Go.Proofs.YtabifopphhpciaaGreatDoor
open Go Go.Vc Go.RowKit Go.Extern.Stop Go.Stop Go.Extern
/-! ## Closed facts -/
theorem ext_call {f : FuncId} {fn : Func} {F : Array Value → Sem Value} (hf : PP.funcs[f]? = some fn) (hname : (fn.name == "runtime.NumGoroutine") = false) (hb : fn.body.isNone = true) (hn : Extern.findNext fn = none) (he : Extern.find fn = some F)
    {args : Array Value} {w w' : World} {v : Value} (h : (F args).run PP w = .ok v w') : (callFunc f args).run PP w = .ok (.value v) w' := by
  rw [run_callFunc_extern hf hname hb hn he, h]; rfl
def ex51 : Array Value → Sem Value := fun args => ReflectliteValue.unpack (args.getD 0 (.tuple #[]))
def ex52 : Array Value → Sem Value := ReflectliteValue.methodAny (ReflectliteValue.valueError "reflectlite.Value.Type" 0) fun t _ _ _ => ReflectliteType.toType t
def ex53 : Array Value → Sem Value := ReflectliteValue.method (ReflectliteValue.valueError "reflectlite.Value.IsNil" 0) ReflectliteValue.isNil
def ex66 : Array Value → Sem Value := ReflectliteValue.method (ReflectliteValue.valueError "reflectlite.Value.Elem" 0) ReflectliteValue.elem
def ex82 : Array Value → Sem Value := ReflectliteType.abiMethod fun t => do pure (.int .u8 (← Rtype.kind t))
def ex90 : Array Value → Sem Value := ReflectliteType.relation "AssignableTo" ReflectliteType.assignableTo
def ex91 : Array Value → Sem Value := ReflectliteType.method fun t => do Rtype.noPackHeld "Comparable" t; pure (.bool (← typeInfo t).comparable)
def ex92 : Array Value → Sem Value := ReflectliteType.method ReflectliteType.elem
def ex93 : Array Value → Sem Value := ReflectliteType.relation "Implements" ReflectliteType.implements_
theorem ef_typeOf32 (v : Value) (w : World) : (callFunc 170 #[.iface 31 v]).run PP w = .ok (.value (.iface 277 (.agg #[.pointer (some ⟨1, 31, none⟩)]))) w := ext_call (F := ReflectliteType.typeOf) Tryz.func170 (by kernel_rfl) (by kernel_rfl) (by kernel_rfl) (by kernel_rfl) (by kernel_rfl)
theorem ef_typeOf79 (v : Value) (w : World) : (callFunc 170 #[.iface 259 v]).run PP w = .ok (.value (.iface 277 (.agg #[.pointer (some ⟨1, 259, none⟩)]))) w := ext_call (F := ReflectliteType.typeOf) Tryz.func170 (by kernel_rfl) (by kernel_rfl) (by kernel_rfl) (by kernel_rfl) (by kernel_rfl)
theorem ef_comparable (w : World) : (callFunc 229 #[.agg #[.pointer (some ⟨1, 31, none⟩)]]).run PP w = .ok (.value (.bool true)) w := ext_call (F := ex91) Tryz.func229 (by kernel_rfl) (by kernel_rfl) (by kernel_rfl) (by kernel_rfl) (by kernel_rfl)
theorem ef_valueOf87 (t : Addr) (w : World) : (callFunc 185 #[.iface 267 (.pointer (some t))]).run PP w = .ok (.value (.agg #[.pointer (some ⟨1, 267, none⟩), .pointer (some ⟨w.heap.size, 0, none⟩), .int .u64 150])) (w.alloc (.cells #[.pointer (some t)] 267)) := ext_call (F := ex51) Tryz.func185 (by kernel_rfl) (by kernel_rfl) (by kernel_rfl) (by kernel_rfl) (by kernel_rfl)
theorem ef_valueOf32 (e : Int) (w : World) : (callFunc 185 #[.iface 31 (.int .i64 e)]).run PP w = .ok (.value (.agg #[.pointer (some ⟨1, 31, none⟩), .pointer (some ⟨w.heap.size, 0, none⟩), .int .u64 130])) (w.alloc (.cells #[.int .i64 e] 31)) := ext_call (F := ex51) Tryz.func185 (by kernel_rfl) (by kernel_rfl) (by kernel_rfl) (by kernel_rfl) (by kernel_rfl)
theorem ef_type87 (a : Addr) (w : World) : (callFunc 186 #[.agg #[.pointer (some ⟨1, 267, none⟩), .pointer (some a), .int .u64 150]]).run PP w = .ok (.value (.iface 277 (.agg #[.pointer (some ⟨1, 267, none⟩)]))) w := ext_call (F := ex52) Tryz.func186 (by kernel_rfl) (by kernel_rfl) (by kernel_rfl) (by kernel_rfl) (by kernel_rfl)
theorem ef_kind87 (w : World) : (callFunc 215 #[.pointer (some ⟨1, 267, none⟩)]).run PP w = .ok (.value (.int .u8 22)) w := ext_call (F := ex82) Tryz.func215 (by kernel_rfl) (by kernel_rfl) (by kernel_rfl) (by kernel_rfl) (by kernel_rfl)
theorem ef_kind32 (w : World) : (callFunc 215 #[.pointer (some ⟨1, 31, none⟩)]).run PP w = .ok (.value (.int .u8 2)) w := ext_call (F := ex82) Tryz.func215 (by kernel_rfl) (by kernel_rfl) (by kernel_rfl) (by kernel_rfl) (by kernel_rfl)
theorem ef_assign79 (w : World) : (callFunc 228 #[.agg #[.pointer (some ⟨1, 259, none⟩)], .iface 277 (.agg #[.pointer (some ⟨1, 31, none⟩)])]).run PP w = .ok (.value (.bool false)) w := ext_call (F := ex90) Tryz.func228 (by kernel_rfl) (by kernel_rfl) (by kernel_rfl) (by kernel_rfl) (by kernel_rfl)
theorem ef_assign32 (w : World) : (callFunc 228 #[.agg #[.pointer (some ⟨1, 31, none⟩)], .iface 277 (.agg #[.pointer (some ⟨1, 31, none⟩)])]).run PP w = .ok (.value (.bool true)) w := ext_call (F := ex90) Tryz.func228 (by kernel_rfl) (by kernel_rfl) (by kernel_rfl) (by kernel_rfl) (by kernel_rfl)
theorem ef_elem87 (w : World) : (callFunc 230 #[.agg #[.pointer (some ⟨1, 267, none⟩)]]).run PP w = .ok (.value (.iface 277 (.agg #[.pointer (some ⟨1, 31, none⟩)]))) w := ext_call (F := ex92) Tryz.func230 (by kernel_rfl) (by kernel_rfl) (by kernel_rfl) (by kernel_rfl) (by kernel_rfl)
theorem ef_impl32 (w : World) : (callFunc 231 #[.agg #[.pointer (some ⟨1, 31, none⟩)], .iface 277 (.agg #[.pointer (some ⟨1, 243, none⟩)])]).run PP w = .ok (.value (.bool true)) w := ext_call (F := ex93) Tryz.func231 (by kernel_rfl) (by kernel_rfl) (by kernel_rfl) (by kernel_rfl) (by kernel_rfl)
theorem ef_mComparable (v : Value) (w : World) : (Go.method 441 277 v "Comparable").run PP w = .ok (229, v) w := by kernel_rfl
theorem ef_mKind (h : Value) (w : World) : (Go.method 441 277 (.agg #[h]) "Kind").run PP w = .ok (215, h) w := by kernel_rfl
theorem ef_mElem (h : Value) (w : World) : (Go.method 441 277 (.agg #[h]) "Elem").run PP w = .ok (230, .agg #[h]) w := by kernel_rfl
theorem ef_mImpl (h : Value) (w : World) : (Go.method 441 277 (.agg #[h]) "Implements").run PP w = .ok (231, .agg #[h]) w := by kernel_rfl
theorem ef_mAssign (h : Value) (w : World) : (Go.method 441 277 (.agg #[h]) "AssignableTo").run PP w = .ok (228, .agg #[h]) w := by kernel_rfl
theorem ef_comp32 : (PP.info? 31).map (·.comparable) = some true := by kernel_rfl
theorem ef_noIs79 (v : Value) (xT : TypeId) (w : World) : (Instr.typeAssert (.iface 259 v) xT 279 true).run PP w = .ok (.tuple #[.nilIface, .bool false]) w := run_typeAssert_lacksB Tryz.underlying279 (by kernel_rfl) (by kernel_rfl) v xT w
theorem ef_noIs32 (v : Value) (xT : TypeId) (w : World) : (Instr.typeAssert (.iface 31 v) xT 279 true).run PP w = .ok (.tuple #[.nilIface, .bool false]) w := run_typeAssert_lacksB Tryz.underlying279 (by kernel_rfl) (by kernel_rfl) v xT w
theorem ef_noUnwrap32 (v : Value) (xT : TypeId) (w : World) : (Instr.typeAssert (.iface 31 v) xT 282 true).run PP w = .ok (.tuple #[.nilIface, .bool false]) w := run_typeAssert_lacksB Tryz.underlying282 (by kernel_rfl) (by kernel_rfl) v xT w
theorem ef_noUnwraps32 (v : Value) (xT : TypeId) (w : World) : (Instr.typeAssert (.iface 31 v) xT 284 true).run PP w = .ok (.tuple #[.nilIface, .bool false]) w := run_typeAssert_lacksB Tryz.underlying284 (by kernel_rfl) (by kernel_rfl) v xT w
theorem ef_hasUnwrap79 (v : Value) (xT : TypeId) (w : World) : (Instr.typeAssert (.iface 259 v) xT 282 true).run PP w = .ok (.tuple #[.iface 259 v, .bool true]) w := run_typeAssert_hasB Tryz.underlying282 (by kernel_rfl) v xT w
theorem ef_noAs79 (v : Value) (xT : TypeId) (w : World) : (Instr.typeAssert (.iface 259 v) xT 306 true).run PP w = .ok (.tuple #[.nilIface, .bool false]) w := run_typeAssert_lacksB Tryz.underlying306 (by kernel_rfl) (by kernel_rfl) v xT w
theorem ef_mUnwrap (v : Value) (w : World) : (Go.method 441 259 v "Unwrap").run PP w = .ok (226, v) w := by kernel_rfl
/-! ## What reads or writes memory -/
theorem rlm (z : Sem Value) (f : TypeId → Addr → Nat → Nat → Sem Value) (v : Value) :
    ReflectliteValue.method z f #[v] = (do match ← ReflectliteValue.parts v with | none => z | some (t, a, fl) => f t a fl (fl % 32)) := rfl
theorem ef_parts87 (a : Addr) (w : World) : (ReflectliteValue.parts (.agg #[.pointer (some ⟨1, 267, none⟩), .pointer (some a), .int .u64 150])).run PP w = .ok (some (267, a, 150)) w := by kernel_rfl
theorem ef_parts32a (a : Addr) (w : World) : (ReflectliteValue.parts (.agg #[.pointer (some ⟨1, 31, none⟩), .pointer (some a), .int .u64 386])).run PP w = .ok (some (31, a, 386)) w := by kernel_rfl
theorem ef_parts32 (a : Addr) (w : World) : (ReflectliteValue.parts (.agg #[.pointer (some ⟨1, 31, none⟩), .pointer (some a), .int .u64 130])).run PP w = .ok (some (31, a, 130)) w := by kernel_rfl
theorem ef_isNil (a p : Addr) (W : World) (ha : W.cell? a = some (.pointer (some p))) : (callFunc 187 #[.agg #[.pointer (some ⟨1, 267, none⟩), .pointer (some a), .int .u64 150]]).run PP W = .ok (.value (.bool false)) W := by
  refine ext_call (F := ex53) Tryz.func187 (by kernel_rfl) (by kernel_rfl) (by kernel_rfl) (by kernel_rfl) ?_
  unfold ex53
  rw [rlm]
  simp only [Sem.run_bind, ef_parts87, Result.andThen]
  simp [ReflectliteValue.isNil, loadVar, isAgg, underlying, Tryz.underlying267, ha, Result.andThen]
theorem ef_elemOf (w : World) : (Rtype.elem? 267).run PP w = .ok (some 31) w := by kernel_rfl
theorem ef_mk (p : Addr) (w : World) : (ReflectliteValue.mk 31 p ReflectliteValue.flagAddr).run PP w = .ok (.agg #[.pointer (some ⟨1, 31, none⟩), .pointer (some p), .int .u64 386]) w := by kernel_rfl
theorem ef_elem (a p : Addr) (W : World) (ha : W.cell? a = some (.pointer (some p))) : (callFunc 197 #[.agg #[.pointer (some ⟨1, 267, none⟩), .pointer (some a), .int .u64 150]]).run PP W = .ok (.value (.agg #[.pointer (some ⟨1, 31, none⟩), .pointer (some p), .int .u64 386])) W := by
  refine ext_call (F := ex66) Tryz.func197 (by kernel_rfl) (by kernel_rfl) (by kernel_rfl) (by kernel_rfl) ?_
  unfold ex66
  rw [rlm]
  simp only [Sem.run_bind, ef_parts87, Result.andThen]
  simp [ReflectliteValue.elem, loadVar, isAgg, underlying, Tryz.underlying267, ha, Result.andThen, ef_elemOf, ef_mk]
theorem rls (v x : Value) : ReflectliteValue.set #[v, x] = (do
    let (some (dst, a, fl), some (src, b, _)) := (← ReflectliteValue.parts v, ← ReflectliteValue.parts x)
      | unsupported (.noEntry "extern/(internal/reflectlite.Value).Set.zeroValue")
    if fl / ReflectliteValue.flagAddr % 2 == 0 then unsupported (.noEntry "extern/(internal/reflectlite.Value).Set.unaddressable")
    let val ← loadVar src b
    if ← Rtype.directlyAssignable dst src then storeVar dst a val
    else if ← Rtype.implements dst src then
      if (← Rtype.kind src) == 20 then
        match val with
        | .nilIface => unsupported (.noEntry "extern/reflectlite: a nil value of one interface type handed on as a value of another")
        | _ => storeVar dst a val
      else storeVar dst a (.iface src val)
    else panicString ("reflectlite.Set: value of type " ++ (← Rtype.spelt src) ++ " is not assignable to type " ++ (← Rtype.spelt dst))
    pure (.tuple #[])) := rfl
theorem ef_direct (w : World) : (Rtype.directlyAssignable 31 31).run PP w = .ok true w := by kernel_rfl
theorem ef_set (ta b : Addr) (e : Int) (old : Value) (W : World) (hb : W.cell? b = some (.int .i64 e)) (ht : W.cell? ta = some old) (hf : W.frozen? ta = false) :
    (callFunc 198 #[.agg #[.pointer (some ⟨1, 31, none⟩), .pointer (some ta), .int .u64 386], .agg #[.pointer (some ⟨1, 31, none⟩), .pointer (some b), .int .u64 130]]).run PP W = .ok (.value (.tuple #[])) (W.setCell ta (.int .i64 e)) := by
  refine ext_call (F := ReflectliteValue.set) Tryz.func198 (by kernel_rfl) (by kernel_rfl) (by kernel_rfl) (by kernel_rfl) ?_
  rw [rls]
  simp only [Sem.run_bind, ef_parts32a, ef_parts32, Result.andThen]
  simp [ReflectliteValue.flagAddr, loadVar, isAgg, underlying, Tryz.underlying31, hb, Result.andThen, ef_direct, storeVar, Value.cells, storeCells, Addr.add]
  rw [run_store PP W ta _ _ (by rfl)]
  simp [ht, hf]
/-! ## errors.Is -/
theorem unwrap_c (b : Nat) (e : Int) (w : World) (hb : w.cell? ⟨b, 1, none⟩ = some (.int .i64 e)) : Calls PP 226 #[.pointer (some ⟨b, 0, none⟩)] w fun ev w' => ev = .returned (.iface 31 (.int .i64 e)) ∧ w' = w := by
  refine sim_stripe_refusal_Unwrap _ _ _ ?_
  unfold vc_stripe_refusal_Unwrap
  exact ⟨_, rfl, e, hb, rfl, rfl⟩
theorem is_nil (y : Value) (w : World) : Calls PP 155 #[.nilIface, .iface 31 y] w fun e w' => e = .returned (.bool false) ∧ w' = w := by
  have hn := run_eql_iface_nil_left (P := PP) w 31 y Tryz.underlying243
  go_enter Tryz.func155, Tryz.ntmps155
  go_wp2
  go_ret
  exact ⟨rfl, rfl⟩
set_option maxHeartbeats 4000000 in
theorem is2_wrap (b : Nat) (e y : Int) (w : World) (hb : w.cell? ⟨b, 1, none⟩ = some (.int .i64 e)) :
    Calls PP 171 #[.iface 259 (.pointer (some ⟨b, 0, none⟩)), .iface 31 (.int .i64 y), .bool true] w fun ev w' => ev = .returned (.bool (e == y)) ∧ w' = w := by
  obtain ⟨i, hi, hcmp⟩ := Option.map_eq_some_iff.1 ef_comp32
  have n1 := ef_noIs79
  have n2 := ef_noIs32
  have n3 := ef_noUnwrap32
  have n4 := ef_noUnwraps32
  have n5 := ef_hasUnwrap79
  have n6 := ef_mUnwrap
  have hty := run_eql_iface_types (P := PP) 259 31 (.pointer (some ⟨b, 0, none⟩)) (.int .i64 y) Tryz.underlying243 (by decide) w
  have heq := run_eql_iface_int (P := PP) w e y Tryz.underlying243 Tryz.underlying31 hi hcmp
  by_cases hey : (e == y) = true
  · rw [hey] at heq ⊢
    go_enter Tryz.func171, Tryz.ntmps171
    go_wp2
    refine wp_loop_rounds 2 ?_
    rw [rounds_succ]
    go_wp2
    refine (unwrap_c b e w hb).mono ?_
    rintro ev w' ⟨rfl, rfl⟩
    go_wp2
    rw [rounds_succ]
    go_wp2
    go_ret
    exact ⟨rfl, rfl⟩
  · rw [Bool.eq_false_iff.2 hey] at heq ⊢
    go_enter Tryz.func171, Tryz.ntmps171
    go_wp2
    refine wp_loop_rounds 2 ?_
    rw [rounds_succ]
    go_wp2
    refine (unwrap_c b e w hb).mono ?_
    rintro ev w' ⟨rfl, rfl⟩
    go_wp2
    rw [rounds_succ]
    go_wp2
    go_ret
    exact ⟨rfl, rfl⟩
set_option maxHeartbeats 4000000 in
theorem is_wrap (b : Nat) (e y : Int) (w : World) (hb : w.cell? ⟨b, 1, none⟩ = some (.int .i64 e)) :
    Calls PP 155 #[.iface 259 (.pointer (some ⟨b, 0, none⟩)), .iface 31 (.int .i64 y)] w fun ev w' => ev = .returned (.bool (e == y)) ∧ w' = w := by
  have tT := ef_typeOf32
  have cT := ef_comparable
  have mR := ef_mComparable
  go_enter Tryz.func155, Tryz.ntmps155
  go_wp2
  refine (is2_wrap b e y w hb).mono ?_
  rintro ev w' ⟨rfl, rfl⟩
  go_wp2
  go_ret
  exact ⟨rfl, rfl⟩
/-! ## errors.As -/
theorem as_nil (t : Value) (w : World) : Calls PP 172 #[.nilIface, t] w fun e w' => e = .returned (.bool false) ∧ w' = w := by
  go_enter Tryz.func172, Tryz.ntmps172
  go_wp2
  go_ret
  exact ⟨rfl, rfl⟩
end Go.Proofs.YtabifopphhpciaaGreatDoor

namespace Go.Proofs.YtabifopphhpciaaGreatDoor
open Go Go.Vc Go.RowKit Go.Extern.Stop Go.Stop Go.Extern
theorem cell_lt {w : World} {p : Addr} {v : Value} (h : w.cell? p = some v) : p.block < w.heap.size := by
  rcases Nat.lt_or_ge p.block w.heap.size with h' | h'
  · exact h'
  · simp [World.cell?, Array.getElem?_eq_none h'] at h
theorem cell_alloc {w : World} {p : Addr} {v : Value} (h : w.cell? p = some v) (o : Obj) : (w.alloc o).cell? p = some v := by
  rw [World.cell?_alloc_lt _ _ p (cell_lt h)]; exact h
abbrev tval (a : Addr) : Value := .agg #[.pointer (some ⟨1, 267, none⟩), .pointer (some a), .int .u64 150]
abbrev tobj (a : Addr) : Obj := .cells #[.pointer (some ⟨1, 267, none⟩), .pointer (some a), .int .u64 150] 290
set_option maxHeartbeats 4000000 in
theorem as2_wrap (b : Nat) (a t : Addr) (e : Int) (old : Value) (w : World) (hb : w.cell? ⟨b, 1, none⟩ = some (.int .i64 e)) (ha : w.cell? a = some (.pointer (some t))) (ht : w.cell? t = some old) (hf : w.frozen? t = false) :
    Calls PP 188 #[.iface 259 (.pointer (some ⟨b, 0, none⟩)), .iface 267 (.pointer (some t)), tval a, .iface 277 (.agg #[.pointer (some ⟨1, 31, none⟩)])] w fun ev w' => ev = .returned (.bool true) ∧ w' = ((w.alloc (tobj a)).alloc (.cells #[.int .i64 e] 31)).setCell t (.int .i64 e) := by
  have t79 := ef_typeOf79
  have t32 := ef_typeOf32
  have mA := ef_mAssign
  have a79 := ef_assign79
  have a32 := ef_assign32
  have nA := ef_noAs79
  have hU := ef_hasUnwrap79
  have mU := ef_mUnwrap
  have v32 := ef_valueOf32
  have el := ef_elem a t (w.alloc (tobj a)) (cell_alloc ha _)
  have htl := cell_lt ht
  have st := ef_set t ⟨w.heap.size + 1, 0, none⟩ e old ((w.alloc (tobj a)).alloc (.cells #[.int .i64 e] 31)) (by rw [World.cell?_alloc_at _ _ _ _ (by simp)]; rfl) (cell_alloc (cell_alloc ht _) _)
    (by rw [World.frozen?_alloc_old _ _ t (by simp; omega), World.frozen?_alloc_old _ _ t (Nat.ne_of_lt htl)]; exact hf)
  go_enter Tryz.func188, Tryz.ntmps188
  go_wp2
  refine wp_loop_rounds 2 ?_
  rw [rounds_succ]
  go_wp2
  refine (unwrap_c b e _ (cell_alloc hb _)).mono ?_
  rintro ev w' ⟨rfl, rfl⟩
  go_wp2
  rw [rounds_succ]
  go_wp2
  go_ret
  exact ⟨rfl, rfl⟩
def ErrG (w : World) : Prop := w.cell? ⟨0, 0, none⟩ = some (.iface 277 (.agg #[.pointer (some ⟨1, 243, none⟩)]))
set_option maxHeartbeats 4000000 in
theorem as_wrap (b : Nat) (t : Addr) (e : Int) (old : Value) (w : World) (hg : ErrG w) (hb : w.cell? ⟨b, 1, none⟩ = some (.int .i64 e)) (ht : w.cell? t = some old) (hf : w.frozen? t = false) :
    Calls PP 172 #[.iface 259 (.pointer (some ⟨b, 0, none⟩)), .iface 267 (.pointer (some t))] w fun ev w' => ev = .returned (.bool true) ∧
      w' = ((((w.alloc (.cells #[.pointer (some t)] 267)).alloc (tobj ⟨w.heap.size, 0, none⟩)).alloc (tobj ⟨w.heap.size, 0, none⟩)).alloc (.cells #[.int .i64 e] 31)).setCell t (.int .i64 e) := by
  have v87 := ef_valueOf87
  have t87 := ef_type87
  have mK := ef_mKind
  have mE := ef_mElem
  have mI := ef_mImpl
  have k87 := ef_kind87
  have k32 := ef_kind32
  have e87 := ef_elem87
  have i32 := ef_impl32
  have ha : (w.alloc (.cells #[.pointer (some t)] 267)).cell? ⟨w.heap.size, 0, none⟩ = some (.pointer (some t)) := by rw [World.cell?_alloc_at _ _ _ _ rfl]; rfl
  have htl := cell_lt ht
  have n8 := ef_isNil ⟨w.heap.size, 0, none⟩ t ((w.alloc (.cells #[.pointer (some t)] 267)).alloc (tobj ⟨w.heap.size, 0, none⟩)) (cell_alloc ha _)
  have hg2 : ((w.alloc (.cells #[.pointer (some t)] 267)).alloc (tobj ⟨w.heap.size, 0, none⟩)).cell? ⟨0, 0, none⟩ = some (.iface 277 (.agg #[.pointer (some ⟨1, 243, none⟩)])) := cell_alloc (cell_alloc hg _) _
  have C := as2_wrap b ⟨w.heap.size, 0, none⟩ t e old ((w.alloc (.cells #[.pointer (some t)] 267)).alloc (tobj ⟨w.heap.size, 0, none⟩)) (cell_alloc (cell_alloc hb _) _) (cell_alloc ha _) (cell_alloc (cell_alloc ht _) _)
    (by rw [World.frozen?_alloc_old _ _ t (by simp; omega), World.frozen?_alloc_old _ _ t (Nat.ne_of_lt htl)]; exact hf)
  go_enter Tryz.func172, Tryz.ntmps172
  go_wp2
  refine C.mono ?_
  rintro ev w' ⟨rfl, rfl⟩
  go_wp2
  go_ret
  exact ⟨rfl, rfl⟩
end Go.Proofs.YtabifopphhpciaaGreatDoor

namespace Go.Proofs.YtabifopphhpciaaGreatDoor
open Go Go.Vc Go.Vc.Asn Go.Gf
def ErrV (w : World) (v : Value) (e : Int) : Prop := (e = 0 ∧ v = .nilIface) ∨ (e ≠ 0 ∧ ∃ b : Nat, v = .iface 259 (.pointer (some ⟨b, 0, none⟩)) ∧ w.cell? ⟨b, 1, none⟩ = some (.int .i64 e))
theorem ErrV.fr0 {w w' : World} {v : Value} {e : Int} (h : ErrV w v e) (f : Fr [] w w') : ErrV w' v e := by
  rcases h with h | ⟨h0, b, h1, h2⟩
  · exact .inl h
  · exact .inr ⟨h0, b, h1, f.cell h2 (by simp)⟩
theorem ErrG.fr0 {w w' : World} (h : ErrG w) (f : Fr [] w w') : ErrG w' := f.cell h (by simp)
section
variable {w0 w : World} {F : Asn} {s p : Slc} {rs : Rws} {g n k q : Nat} {bs : List UInt8}
theorem why_c {t : ByteArray} {e : Int} : Calls PP F_stripe_why #[.string t, .int .i64 e] w (Rt fun v w' => ErrV w' v e ∧ Fr [] w w') := by
  refine sim_stripe_why _ _ _ _ ?_
  unfold vc_stripe_why
  refine ⟨fun h => Rt.ok ⟨.inl ⟨by simpa using h, rfl⟩, Fr.refl _ _⟩, fun h => ?_⟩
  refine (Hp.start w).new fun b w1 H => Rt.ok ⟨.inr ⟨by simpa using h, b, rfl, ?_⟩, H.fr⟩
  have := H.cell (b := b) (i := 1) rfl
  exact this
theorem alloc_fr (w : World) (cs : Array Value) (t : TypeId) : Fr [] w (w.alloc (.cells cs t)) := NewBlk.fr (b := w.heap.size) (cs := cs) (e := t) ⟨rfl, rfl⟩
theorem number_c {v : Value} {e : Int} (hG : ErrG w) (hE : ErrV w v e) : Calls PP F_stripe_number #[v] w (Rt fun x w' => x = .int .i64 e ∧ Fr [] w w') := by
  refine sim_stripe_number _ _ _ ?_
  unfold vc_stripe_number
  refine (Hp.start w).new fun b w1 H => ?_
  rcases hE with ⟨rfl, rfl⟩ | ⟨h0, c, rfl, hc⟩
  · refine (as_nil _ w1).mono ?_
    rintro ev w2 ⟨rfl, rfl⟩
    exact ⟨false, rfl, fun h => by simp at h, fun _ => Rt.ok ⟨rfl, H.fr⟩⟩
  · have hB := H.isBlk (b := b)
    have hcell := hB.cell (i := 0) (v := .int .i64 0) rfl
    rw [blk_add] at hcell
    have hfz := hB.frz 0
    rw [blk_add] at hfz
    refine (as_wrap c ⟨b, 0, none⟩ e _ w1 (hG.fr0 H.fr) (H.fr.cell hc (by simp)) hcell hfz).mono ?_
    rintro ev w2 ⟨rfl, hw2⟩
    have f := (((alloc_fr w1 #[.pointer (some ⟨b, 0, none⟩)] 267).then_ (alloc_fr _ #[.pointer (some ⟨1, 267, none⟩), .pointer (some ⟨w1.heap.size, 0, none⟩), .int .u64 150] 290)).then_ (alloc_fr _ #[.pointer (some ⟨1, 267, none⟩), .pointer (some ⟨w1.heap.size, 0, none⟩), .int .u64 150] 290)).then_ (alloc_fr _ #[.int .i64 e] 31)
    have H := H.fr0 f
    have hB2 := H.isBlk (b := b)
    have hset := hB2.set 0 (.int .i64 e)
    have hfs := Fr.set ((((w1.alloc (.cells #[.pointer (some ⟨b, 0, none⟩)] 267)).alloc (tobj ⟨w1.heap.size, 0, none⟩)).alloc (tobj ⟨w1.heap.size, 0, none⟩)).alloc (.cells #[.int .i64 e] 31)) ((blk b).add 0) (.int .i64 e)
    rw [blk_add] at hset hfs
    rw [← hw2] at hset hfs
    have H := H.set (b := b) hset hfs
    refine ⟨true, rfl, fun _ => ⟨e, ?_, Rt.ok ⟨rfl, H.fr⟩⟩, fun h => by simp at h⟩
    exact H.cell (b := b) (i := 0) rfl
theorem indexU_c {fn : FuncId} {cap : Array Value} {f : UInt8 → Bool} (hC : Byt w s bs) (hl : bs.length ≤ 1099511627776) (hb : bodyB PP fn = true)
    (hp : ∀ w' (x : UInt8), Fr [] w w' → Calls PP fn (#[u8v x] ++ cap) w' (Rt fun v w'' => v = .bool (f x) ∧ Fr [] w' w'')) :
    Calls PP F_slices_IndexFunc_byte_byte #[s.v, .func (.func fn) #[] cap] w (Rt fun v w' => ∃ i : Int, v = .int .i64 i ∧ decide (0 ≤ i) = bs.any f ∧ Fr [] w w') := by
  refine sim_slices_IndexFunc_byte_byte _ _ _ _ ?_
  unfold vc_slices_IndexFunc_byte_byte
  have hsl := hC.len
  refine ⟨fun i w' => ∃ j : Nat, i = (j : Int) ∧ j ≤ bs.length ∧ (∀ k (hk : k < bs.length), k < j → f bs[k] = false) ∧ Fr [] w w', fun i _ => bs.length - i.toNat, ⟨0, rfl, Nat.zero_le _, fun k _ hk => by omega, Fr.refl _ _⟩, ?_⟩
  rintro _ w2 ⟨j, rfl, hj, hno, f2⟩
  refine ⟨fun h => ?_, fun h => ?_⟩
  · have hlt : j < bs.length := by simp only [decide_eq_true_eq] at h; omega
    refine (hC.fr0 f2).rd hlt fun a ha => ⟨fn, cap, rfl, hb, call (hp w2 _ f2) ?_⟩
    rintro _ w3 ⟨rfl, f3⟩
    refine ⟨_, rfl, fun h => Rt.ok ⟨_, rfl, ?_, f2.then_ f3⟩, fun h => ?_⟩
    · rw [show decide (0 ≤ (j : Int)) = true by simp]
      symm
      exact List.any_eq_true.2 ⟨bs[j], List.getElem_mem hlt, h⟩
    · rw [ofW j (by omega)]
      refine ⟨⟨j + 1, rfl, by omega, fun k hk hkj => ?_, f2.then_ f3⟩, by dsimp only; omega⟩
      by_cases hkj2 : k = j
      · subst hkj2; exact h
      · exact hno k hk (by omega)
  · have hje : j = bs.length := by simp only [decide_eq_false_iff_not] at h; omega
    refine Rt.ok ⟨-1, rfl, ?_, f2⟩
    symm
    show bs.any _ = false
    rw [List.any_eq_false]
    intro r hr
    obtain ⟨k, hk, rfl⟩ := List.getElem_of_mem hr
    rw [hno k hk (by omega)]
    simp
theorem containsU_c {fn : FuncId} {cap : Array Value} {f : UInt8 → Bool} (hC : Byt w s bs) (hl : bs.length ≤ 1099511627776) (hb : bodyB PP fn = true)
    (hp : ∀ w' (x : UInt8), Fr [] w w' → Calls PP fn (#[u8v x] ++ cap) w' (Rt fun v w'' => v = .bool (f x) ∧ Fr [] w' w'')) :
    Calls PP F_slices_ContainsFunc_byte_byte #[s.v, .func (.func fn) #[] cap] w (Rt fun v w' => v = .bool (bs.any f) ∧ Fr [] w w') := by
  refine sim_slices_ContainsFunc_byte_byte _ _ _ _ ?_
  unfold vc_slices_ContainsFunc_byte_byte
  refine call (indexU_c hC hl hb hp) ?_
  rintro _ w1 ⟨i, rfl, hi, f⟩
  exact ⟨i, rfl, Rt.ok ⟨by rw [hi], f⟩⟩
theorem le_or (a b c d : UInt8) : orI .i64 (orI .i64 (orI .i64 (wr .i64 (a.toNat : Int)) (shlI .i64 (wr .i64 (b.toNat : Int)) 8)) (shlI .i64 (wr .i64 (c.toNat : Int)) 16)) (shlI .i64 (wr .i64 (d.toNat : Int)) 24) = ((a.toNat + b.toNat * 256 + c.toNat * 65536 + d.toNat * 16777216 : Nat) : Int) := by
  have h1 := a.toNat_lt
  have h2 := b.toNat_lt
  have h3 := c.toNat_lt
  have h4 := d.toNat_lt
  rw [wr64 (by omega) (by omega), wr64 (by omega) (by omega), wr64 (by omega) (by omega), wr64 (by omega) (by omega)]
  have e1 := or_shl2 (n := a.toNat) (x := b.toNat) (k := 8) (by omega) (by omega) h2
  have e2 := or_shl2 (n := a.toNat + b.toNat * 2 ^ 8) (x := c.toNat) (k := 16) (by omega) (by omega) h3
  have e3 := or_shl2 (n := a.toNat + b.toNat * 2 ^ 8 + c.toNat * 2 ^ 16) (x := d.toNat) (k := 24) (by omega) (by omega) h4
  rw [show ((8 : Nat) : Int) = 8 from rfl] at e1
  rw [show ((16 : Nat) : Int) = 16 from rfl] at e2
  rw [show ((24 : Nat) : Int) = 24 from rfl] at e3
  rw [e1, e2, e3]
theorem lenOf_at {A : List UInt8} (h : 4 ≤ A.length) : lenOf A = A[0].toNat + A[1].toNat * 256 + A[2].toNat * 65536 + A[3].toNat * 16777216 := by
  match A, h with
  | a :: b :: c :: d :: r, _ => rfl
def WholePost (D : List (List UInt8)) (k s : Nat) (w : World) (v : Value) (w' : World) : Prop :=
  ∃ o ev, v = .tuple #[Slc.v o, ev] ∧ match wholeV D k s with
    | .inl e => o = Slc.nil ∧ ErrV w' ev e ∧ e ≠ 0 ∧ Fr [] w w'
    | .inr x => ev = .nilIface ∧ Hp w w' (star (own Ty_uint8 1 o (x.map u8v)) emp)
theorem whole_c {l : Nat} (hR : RdR w s rs) (hS : Shp (mt rs) k l) (hk : 1 ≤ k) (hk2 : k ≤ 255) (hl : l ≤ 16777216) :
    Calls PP F_stripe_whole #[s.v] w (Rt (WholePost (mt rs) k l w)) := by
  refine sim_stripe_whole _ _ _ ?_
  unfold vc_stripe_whole
  have hsl : s.l = k := by rw [hR.cel.lenM]; exact shpLen hS
  have hrl := shpLen hS
  have h0 : rs[0].1.l = l := by rw [(hR.at_ (by omega)).len]; exact shpRow hS (by omega)
  have hlk : l * k ≤ 16777216 * 255 := Nat.mul_le_mul hl hk2
  have hfl := flat_len hS
  refine hR.cel.rdS (i := 0) (by omega) fun a ha => ?_
  rw [h0, hsl]
  have ew : wr .i64 ((l : Int) * (k : Int)) = ((l * k : Nat) : Int) := by rw [← Int.natCast_mul, wr64 (by omega) (by omega)]
  rw [ew]
  refine ⟨fun b w' => b = decide (l * k < 4 ∨ sizeN 65536 k < l) ∧ Fr [] w w', ⟨fun h => ?_, fun h => ⟨?_, Fr.refl _ _⟩⟩, ?_⟩
  · refine call (size_c (n := 65536) hk (by omega) (by omega)) ?_
    rintro _ w1 ⟨rfl, rfl⟩
    refine ⟨_, rfl, ?_, Fr.refl _ _⟩
    simp only [decide_eq_false_iff_not] at h
    rw [Bool.eq_iff_iff, decide_eq_true_iff, decide_eq_true_iff]
    omega
  · simp only [decide_eq_true_eq] at h
    symm
    rw [decide_eq_true_iff]
    omega
  rintro _ w1 ⟨rfl, f1⟩
  refine ⟨fun h => ?_, fun h => ?_⟩
  · simp only [decide_eq_true_eq] at h
    refine call why_c ?_
    rintro ev w2 ⟨hE, f2⟩
    refine ⟨_, rfl, Rt.ok ⟨Slc.nil, ev, rfl, ?_⟩⟩
    unfold wholeV
    rw [if_pos h]
    exact ⟨rfl, hE, by decide, f1.then_ f2⟩
  have hc1 : ¬ (l * k < 4 ∨ sizeN 65536 k < l) := by simpa using h
  refine call (concat_c (hR.fr0 f1) (by omega) (by omega)) ?_
  rintro _ w2 ⟨o, rfl, H⟩
  obtain ⟨A, hA⟩ : ∃ A, A = (mt rs).flatten := ⟨_, rfl⟩
  rw [← hA] at H hfl
  have hB : Byt w2 o A := H.cel (s := o)
  have hol := hB.len
  refine ⟨o, rfl, hB.rd (i := 0) (by omega) fun a0 _ => hB.rd (i := 1) (by omega) fun a1 _ => hB.rd (i := 2) (by omega) fun a2 _ => hB.rd (i := 3) (by omega) fun a3 _ => fun k36 => ?_⟩
  have f2 : Fr [] w w2 := f1.then_ H.fr
  have H := H.drew k36
  rw [le_or, ← lenOf_at (by omega)]
  have hlen4 : lenOf A < 4294967296 := by
    unfold lenOf
    have h1 := (A.getD 0 0).toNat_lt
    have h2 := (A.getD 1 0).toNat_lt
    have h3 := (A.getD 2 0).toNat_lt
    have h4 := (A.getD 3 0).toNat_lt
    omega
  obtain ⟨m, hm⟩ : ∃ m, m = lenOf A := ⟨_, rfl⟩
  rw [← hm] at hlen4 ⊢
  have hW : wholeV (mt rs) k l = if 65536 < m ∨ sizeN m k ≠ l then .inl 25 else if (A.drop (4 + m)).any (fun b => b ≠ 0) then .inl 24 else .inr ((A.drop 4).take m) := by
    unfold wholeV
    rw [if_neg hc1, ← hA, ← hm]
  refine ⟨fun b w' => b = decide (65536 < m ∨ sizeN m k ≠ l) ∧ Fr [] (w2.drewN k36) w', ⟨fun h => ?_, fun h => ⟨?_, Fr.refl _ _⟩⟩, ?_⟩
  · simp only [decide_eq_false_iff_not] at h
    refine call (size_c (n := m) hk (by omega) (by omega)) ?_
    rintro _ w3 ⟨rfl, rfl⟩
    refine ⟨_, rfl, ?_, Fr.refl _ _⟩
    rw [Bool.eq_iff_iff, decide_eq_true_iff, decide_eq_true_iff]
    omega
  · simp only [decide_eq_true_eq] at h
    symm
    rw [decide_eq_true_iff]
    omega
  rintro _ w3 ⟨rfl, f3⟩
  have f23 : Fr [] w2 w3 := (((Hp.start w2).drew k36).fr).then_ f3
  refine ⟨fun h => ?_, fun h => ?_⟩
  · simp only [decide_eq_true_eq] at h
    refine call why_c ?_
    rintro ev w4 ⟨hE, f4⟩
    refine ⟨_, rfl, Rt.ok ⟨Slc.nil, ev, rfl, ?_⟩⟩
    rw [hW, if_pos h]
    exact ⟨rfl, hE, by decide, f2.then_ (f23.then_ f4)⟩
  have hc2 : ¬ (65536 < m ∨ sizeN m k ≠ l) := by simpa using h
  have hm4 := size_le (n := m) hk
  rw [show sizeN m k = l by omega] at hm4
  have ew4 : wr .i64 (4 + (m : Int)) = ((4 + m : Nat) : Int) := by rw [wr64 (by omega) (by omega)]; omega
  rw [ew4]
  have hB3 := hB.fr0 f23
  have hcap := hB3.cap
  refine ⟨by omega, by omega, by omega, ?_⟩
  rw [Int.toNat_natCast, Int.toNat_natCast]
  have hcut : Byt w3 (o.cut 1 (4 + m) o.l) (A.drop (4 + m)) := by
    have := Cel.cut hB3 (l := 4 + m) (k := o.l) (by omega) (Nat.le_refl _)
    rw [Nat.mul_one, Nat.mul_one, List.take_of_length_le (by simp; omega), ← List.map_drop] at this
    exact this
  refine call (containsU_c (f := fun b => decide (b ≠ 0)) hcut (by rw [List.length_drop]; omega) (by kernel_rfl) fun w' x f => ?_) ?_
  · refine sim_stripe_whole_c1 _ _ _ ?_
    unfold vc_stripe_whole_c1
    refine Rt.ok ⟨?_, Fr.refl _ _⟩
    congr 1
    rw [Bool.eq_iff_iff, decide_eq_true_iff, decide_eq_true_iff]
    constructor
    · intro h e; apply h; rw [e]; rfl
    · intro h e; apply h; exact UInt8.toNat_inj.1 (by show _ = 0; omega)
  rintro _ w4 ⟨rfl, f4⟩
  refine ⟨_, rfl, fun h => ?_, fun h => ?_⟩
  · refine call why_c ?_
    rintro ev w5 ⟨hE, f5⟩
    refine ⟨_, rfl, Rt.ok ⟨Slc.nil, ev, rfl, ?_⟩⟩
    rw [hW, if_neg hc2, if_pos h]
    exact ⟨rfl, hE, by decide, f2.then_ (f23.then_ (f4.then_ f5))⟩
  · refine ⟨by omega, by omega, by omega, ?_⟩
    have hcut2 : Byt w4 (o.cut 1 4 (4 + m)) ((A.drop 4).take m) := by
      have := Cel.cut (hB3.fr0 f4) (l := 4) (k := 4 + m) (by omega) (by omega)
      rw [Nat.mul_one, Nat.mul_one, ← List.map_drop, ← List.map_take, show 4 + m - 4 = m by omega] at this
      exact this
    refine call (clone_c hcut2 (by rw [List.length_take]; omega)) ?_
    rintro _ w5 ⟨o2, rfl, H5⟩
    refine ⟨o2, rfl, Rt.ok ⟨o2, _, rfl, ?_⟩⟩
    rw [hW, if_neg hc2, if_neg (by rw [h]; decide)]
    exact ⟨rfl, Hp.from (f2.then_ (f23.then_ f4)) H5⟩
end
end Go.Proofs.YtabifopphhpciaaGreatDoor

namespace Go.Proofs.YtabifopphhpciaaGreatDoor
open Go Go.Vc Go.Vc.Asn Go.Gf
def JErr (n k : Nat) (R : List (List UInt8)) (ps : List Pt) (e : Int) : Prop :=
  (refusedV n k ps ≠ 0 ∧ e = refusedV n k ps) ∨ (refusedV n k ps = 0 ∧ e = 26 ∧ ∀ D l, Shp D k l → ¬ Agrees R D l (prs ps)) ∨
  (refusedV n k ps = 0 ∧ ∃ D l, Shp D k l ∧ (∀ p ∈ ps, p.bs.length = l) ∧ Agrees R D l (prs ps) ∧ wholeV D k l = .inl e)
def JoinPost (n k : Nat) (R : List (List UInt8)) (ps : List Pt) (w : World) (v : Value) (w' : World) : Prop :=
  (∃ e, e ≠ 0 ∧ v = .tuple #[Slc.nil.v, .int .i64 e] ∧ JErr n k R ps e ∧ Fr [] w w') ∨
  (∃ o D l x, v = .tuple #[Slc.v o, .int .i64 0] ∧ refusedV n k ps = 0 ∧ Shp D k l ∧ (∀ p ∈ ps, p.bs.length = l) ∧ Agrees R D l (prs ps) ∧ wholeV D k l = .inr x ∧ Hp w w' (star (own Ty_uint8 1 o (x.map u8v)) emp))
section
variable {w0 w : World} {F : Asn} {s p : Slc} {rs : Rws} {g n k q : Nat} {ps : List Pt}
theorem is_any {v : Value} {e : Int} (hE : ErrV w v e) : Calls PP F_errors_Is #[v, .iface 31 (.int .i64 20)] w (Rt fun x w' => (∃ b : Bool, x = .bool b ∧ (b = true → e ≠ 0)) ∧ w' = w) := by
  rcases hE with ⟨rfl, rfl⟩ | ⟨h0, c, rfl, hc⟩
  · refine (is_nil _ w).mono ?_
    rintro ev w' ⟨rfl, rfl⟩
    exact ⟨⟨false, rfl, fun h => by simp at h⟩, rfl⟩
  · refine (is_wrap c e 20 w hc).mono ?_
    rintro ev w' ⟨rfl, rfl⟩
    exact ⟨⟨_, rfl, fun _ => h0⟩, rfl⟩
theorem join_c (hG : ErrG w) (hC : RdCode w q g s rs n k) (hP : RdP w p ps) (hl : ps.length ≤ 1099511627776) (hbl : ∀ r ∈ ps, r.bs.length ≤ 16777216) :
    Calls PP F_stripe_Join #[.pointer (some (blk q)), p.v] w (Rt (JoinPost n k (mt rs) ps w)) := by
  refine sim_stripe_Join _ _ _ _ ?_
  unfold vc_stripe_Join
  have hk := hC.hk
  have hkn := hC.hkn
  have hn := hC.hn
  refine ⟨fun h => by simp at h, fun _ => call (decode_c hC hP hl hbl) ?_⟩
  rintro v w1 (⟨h0, rfl, f1⟩ | ⟨h0, D, l, hS, hpl, hA, o, os, rfl, hm, H⟩ | ⟨h0, rfl, f1, hno⟩)
  · refine ⟨_, _, rfl, call why_c ?_⟩
    rintro ev w2 ⟨hE, f2⟩
    refine ⟨ev, rfl, call (is_any hE) ?_⟩
    rintro _ w3 ⟨⟨b, rfl, hb⟩, rfl⟩
    refine ⟨b, rfl, true, fun _ => ⟨false, ?_, rfl⟩, fun _ => rfl, fun _ => call (number_c ((hG.fr0 f1).fr0 f2) hE) ?_, fun h => by simp at h⟩
    · rcases hE with ⟨e0, _⟩ | ⟨_, c, rfl, _⟩
      · exact absurd e0 h0
      · exact .inr ⟨⟨_, _, rfl⟩, rfl⟩
    · rintro _ w4 ⟨rfl, f4⟩
      exact ⟨_, rfl, Rt.ok (.inl ⟨_, h0, rfl, .inl ⟨h0, rfl⟩, f1.then_ (f2.then_ f4)⟩)⟩
  · refine ⟨_, _, rfl, call why_c ?_⟩
    rintro ev w2 ⟨hE, f2⟩
    have hev : ev = .nilIface := by
      rcases hE with ⟨_, h⟩ | ⟨h, _⟩
      · exact h
      · exact absurd rfl h
    subst hev
    refine ⟨_, rfl, call (is_any hE) ?_⟩
    rintro _ w3 ⟨⟨b, rfl, hb⟩, rfl⟩
    have hbf : b = false := by
      cases b with
      | false => rfl
      | true => exact absurd rfl (hb rfl)
    subst hbf
    refine ⟨false, rfl, false, fun _ => ⟨true, .inl ⟨rfl, rfl⟩, rfl⟩, fun h => by simp at h, fun h => by simp at h, fun _ => ?_⟩
    have H2 := H.fr0 f2
    subst hm
    have hpos : 0 < ps.length := by have := (refused0 h0).2.2.2; omega
    have hl16 : l ≤ 16777216 := by
      have h1 := hpl _ (List.getElem_mem hpos)
      have h2 := hbl _ (List.getElem_mem hpos)
      omega
    refine call (whole_c (rdR H2.assoc) hS hk (by omega) hl16) ?_
    rintro _ w4 ⟨o2, ev2, rfl, hW⟩
    cases hV : wholeV (mt os) k l with
    | inl e =>
      rw [hV] at hW
      obtain ⟨rfl, hE2, he, f4⟩ := hW
      refine ⟨_, _, rfl, call (number_c (hG.fr0 (H2.fr.then_ f4)) hE2) ?_⟩
      rintro _ w5 ⟨rfl, f5⟩
      exact ⟨_, rfl, Rt.ok (.inl ⟨e, he, rfl, .inr (.inr ⟨h0, _, l, hS, hpl, hA, hV⟩), H2.fr.then_ (f4.then_ f5)⟩)⟩
    | inr x =>
      rw [hV] at hW
      obtain ⟨rfl, H4⟩ := hW
      refine ⟨_, _, rfl, call (number_c (e := 0) (hG.fr0 (H2.fr.then_ H4.fr)) (.inl ⟨rfl, rfl⟩)) ?_⟩
      rintro _ w5 ⟨rfl, f5⟩
      exact ⟨_, rfl, Rt.ok (.inr ⟨o2, _, l, x, rfl, h0, hS, hpl, hA, hV, Hp.from H2.fr (H4.fr0 f5)⟩)⟩
  · refine ⟨_, _, rfl, call why_c ?_⟩
    rintro ev w2 ⟨hE, f2⟩
    refine ⟨ev, rfl, call (is_any hE) ?_⟩
    rintro _ w3 ⟨⟨b, rfl, hb⟩, rfl⟩
    refine ⟨b, rfl, true, fun _ => ⟨false, ?_, rfl⟩, fun _ => rfl, fun _ => call (number_c ((hG.fr0 f1).fr0 f2) hE) ?_, fun h => by simp at h⟩
    · rcases hE with ⟨e0, _⟩ | ⟨_, c, rfl, _⟩
      · exact absurd e0 (by decide)
      · exact .inr ⟨⟨_, _, rfl⟩, rfl⟩
    · rintro _ w4 ⟨rfl, f4⟩
      exact ⟨_, rfl, Rt.ok (.inl ⟨26, by decide, rfl, .inr (.inl ⟨h0, rfl, hno⟩), f1.then_ (f2.then_ f4)⟩)⟩
end
end Go.Proofs.YtabifopphhpciaaGreatDoor

namespace Go.Gf
end Go.Gf
namespace Go.Proofs.YtabifopphhpciaaGreatDoor
open Go Go.Vc Go.Vc.Asn Go.Gf
section
variable {n k l l' : Nat} {R D D' : List (List UInt8)} {ps : List Pt} {v : List UInt8}
structure Fine (n : Nat) (ps : List Pt) : Prop where
  ix : ∀ p ∈ ps, 0 ≤ p.ix ∧ p.ix < (n : Int)
  nd : (ps.map (·.ix)).Nodup
theorem agrees_uniq (hG : Gen n k R) (hn : n ≤ 255) (hk : 1 ≤ k) (hkn : k ≤ n) (hF : Fine n ps) (hl : k ≤ ps.length) (hD : Shp D k l) (hD' : Shp D' k l') (hA : Agrees R D l (prs ps)) (hA' : Agrees R D' l' (prs ps)) : l' = l ∧ D' = D := by
  have hA1 : ∀ i (hi : i < ps.length), lin (R.getD ps[i].ix.toNat []) D l = ps[i].bs := fun i hi => hA (ps[i].ix.toNat, ps[i].bs) (List.mem_map_of_mem (List.getElem_mem hi))
  have hA2 : ∀ i (hi : i < ps.length), lin (R.getD ps[i].ix.toNat []) D' l' = ps[i].bs := fun i hi => hA' (ps[i].ix.toNat, ps[i].bs) (List.mem_map_of_mem (List.getElem_mem hi))
  have e : l' = l := by
    have h1 := congrArg List.length (hA1 0 (by omega))
    have h2 := congrArg List.length (hA2 0 (by omega))
    rw [lin_len] at h1 h2
    omega
  subst e
  refine ⟨rfl, ent_ext hD' hD fun i j hi hj => ?_⟩
  have hT := hG.any hn hkn (fun i => (ps.getD i ⟨0, Slc.nil, []⟩).ix.toNat) (fun i hi => by
      rw [List.getD_eq_getElem?_getD (l := ps), List.getElem?_eq_getElem (by omega)]
      have := hF.ix _ (List.getElem_mem (show i < ps.length by omega))
      show (ps[i]'(by omega)).ix.toNat < n
      omega) (fun i i' hi hi' e => by
      simp only [List.getD_eq_getElem?_getD] at e
      rw [List.getElem?_eq_getElem (show i < ps.length by omega), List.getElem?_eq_getElem (show i' < ps.length by omega)] at e
      simp only [Option.getD_some] at e
      have h1 := hF.ix _ (List.getElem_mem (show i < ps.length by omega))
      have h2 := hF.ix _ (List.getElem_mem (show i' < ps.length by omega))
      refine (List.getElem_inj (xs := ps.map (·.ix)) (h₀ := by rw [List.length_map]; omega) (h₁ := by rw [List.length_map]; omega) hF.nd).1 ?_
      rw [List.getElem_map, List.getElem_map]
      omega)
  have h0 := hT (fun c => ent D' c j ^^^ ent D c j) (fun i hi => by
    have hi' : i < ps.length := by omega
    have e1 := congrArg (fun x : List UInt8 => x.getD j 0) (hA1 i hi')
    have e2 := congrArg (fun x : List UInt8 => x.getD j 0) (hA2 i hi')
    simp only [lin_at _ _ hj, hD.len, hD'.len] at e1 e2
    have hx : ∀ c, (R.getD ((ps.getD i ⟨0, Slc.nil, []⟩).ix.toNat) []).getD c 0 = ent R ((ps.getD i ⟨0, Slc.nil, []⟩).ix.toNat) c := fun c => rfl
    have hp : ps.getD i ⟨0, Slc.nil, []⟩ = ps[i] := by rw [List.getD_eq_getElem?_getD, List.getElem?_eq_getElem hi']; rfl
    rw [← hp] at e1 e2
    have hsum : dot k (ent R ((ps.getD i ⟨0, Slc.nil, []⟩).ix.toNat)) (fun c => ent D' c j ^^^ ent D c j) = dot k (fun x => (R.getD ((ps.getD i ⟨0, Slc.nil, []⟩).ix.toNat) []).getD x 0) (fun x => ent D' x j) ^^^ dot k (fun x => (R.getD ((ps.getD i ⟨0, Slc.nil, []⟩).ix.toNat) []).getD x 0) (fun x => ent D x j) := by
      unfold dot
      rw [← sumX_add]
      exact sumX_congr fun c _ => mul_add _ _ _
    rw [hsum, e1, e2, add_self]) i hi
  exact eq_of_add h0
theorem fine_refused (hF : Fine n ps) (hb : ∀ p ∈ ps, p.bs.length = l) : refusedV n k ps = if ps.length < k then 20 else 0 := by
  unfold refusedV
  rw [if_neg fun ⟨p, hp, h⟩ => by have := hF.ix p hp; omega, if_neg fun h => h hF.nd, if_neg]
  rintro ⟨p, hp, h⟩
  apply h
  rw [hb p hp]
  cases ps with
  | nil => cases hp
  | cons a r => exact (hb a List.mem_cons_self).symm
def Frags (n k : Nat) (R : List (List UInt8)) (v : List UInt8) (ps : List Pt) : Prop := Fine n ps ∧ ∀ p ∈ ps, p.bs = lin (R.getD p.ix.toNat []) (cutV v k) (sizeN v.length k)
theorem Frags.len (h : Frags n k R v ps) : ∀ p ∈ ps, p.bs.length = sizeN v.length k := fun p hp => by rw [h.2 p hp, lin_len]
theorem Frags.agrees (h : Frags n k R v ps) : Agrees R (cutV v k) (sizeN v.length k) (prs ps) := fun pr hpr => by
  obtain ⟨p, hp, rfl⟩ := List.mem_map.1 hpr
  exact (h.2 p hp).symm
theorem join_all {w w' : World} {x : Value} (hG : Gen n k R) (hn : n ≤ 255) (hk : 1 ≤ k) (hkn : k ≤ n) (hv : v.length ≤ 65536) (h : Frags n k R v ps) (hl : k ≤ ps.length) (hJ : JoinPost n k R ps w x w') :
    ∃ o, x = .tuple #[Slc.v o, .int .i64 0] ∧ Hp w w' (star (own Ty_uint8 1 o (v.map u8v)) emp) := by
  have hr := fine_refused (k := k) h.1 h.len
  rw [if_neg (by omega)] at hr
  have hS := cutV_shp v hk
  rcases hJ with ⟨e, h0, rfl, hE, f⟩ | ⟨o, D, l, y, rfl, h0, hD, hpl, hA, hW, H⟩
  · exfalso
    rcases hE with ⟨h1, _⟩ | ⟨_, _, h2⟩ | ⟨_, D, l, hD, _, hA, hW⟩
    · exact h1 hr
    · exact h2 _ _ hS h.agrees
    · obtain ⟨rfl, rfl⟩ := agrees_uniq hG hn hk hkn h.1 hl hS hD h.agrees hA
      rw [wholeV_cut hk hv] at hW
      cases hW
  · obtain ⟨rfl, rfl⟩ := agrees_uniq hG hn hk hkn h.1 hl hS hD h.agrees hA
    rw [wholeV_cut hk hv] at hW
    injection hW with hW
    subst hW
    exact ⟨o, rfl, H⟩
end
end Go.Proofs.YtabifopphhpciaaGreatDoor

namespace Go.Proofs.YtabifopphhpciaaGreatDoor
open Go Go.Vc Go.Vc.Asn Go.Gf
def lkB (L : Lb) (k : Int) : Option (Rp × List UInt8) := (L.find? fun z => decide (z.1 = k)).map (·.2)
theorem llook_lr (L : Lb) (k : Int) : llook (lr L) k = (lkB L k).map (·.1) := by
  unfold llook lkB lr
  rw [List.find?_map]
  show ((L.find? fun z => decide (z.1 = k)).map fun z => (z.1, z.2.1)).map (·.2) = ((L.find? fun z => decide (z.1 = k)).map (·.2)).map (·.1)
  cases L.find? fun z => decide (z.1 = k) <;> rfl
def ptAt (L : Lb) (k : Int) : List Pt := match lkB L k with
  | some z => if z.1.has then [⟨k, z.1.data, z.2⟩] else []
  | none => []
def psOf (L : Lb) (i : Nat) : List Pt := ((keysOf (lr L)).take i).flatMap (ptAt L)
theorem psOf_succ {L : Lb} {i : Nat} (hi : i < (keysOf (lr L)).length) : psOf L (i + 1) = psOf L i ++ ptAt L (keysOf (lr L))[i] := by
  unfold psOf
  rw [List.take_succ_eq_append_getElem hi, List.flatMap_append]
  simp
theorem ptAt_len (L : Lb) (k : Int) : (ptAt L k).length ≤ 1 := by
  unfold ptAt
  split
  · split <;> simp
  · simp
theorem psOf_len (L : Lb) : ∀ i, (psOf L i).length ≤ i
  | 0 => by simp [psOf]
  | i + 1 => by
    by_cases hi : i < (keysOf (lr L)).length
    · rw [psOf_succ hi, List.length_append]
      have := psOf_len L i
      have := ptAt_len L (keysOf (lr L))[i]
      omega
    · have e : psOf L (i + 1) = psOf L i := by unfold psOf; rw [List.take_of_length_le (by omega), List.take_of_length_le (by omega)]
      rw [e]
      have := psOf_len L i
      omega
abbrev coA (p b14 b3 : Nat) (x : Cl) (ps : List Pt) : Asn := Asn.ex fun s : Slc => star (bk b14 Ty_sl_api_Part #[s.v]) (star (own Ty_api_Part 2 s (ps.flatMap Pt.enc)) (star (bk b3 Ty_p_client_Client #[.pointer (some (blk p))]) (cliA p x)))
theorem pt_len (q : Pt) : q.enc.length = 2 := rfl
theorem one_pt (l : List Pt) : ∀ u ∈ l.flatMap Pt.enc, u.oneCell' = true := by
  intro u hu
  obtain ⟨h, _, hu⟩ := List.mem_flatMap.1 hu
  unfold Pt.enc at hu
  simp only [List.mem_cons, List.not_mem_nil, or_false] at hu
  rcases hu with rfl | rfl <;> rfl
theorem body_read : bodyB PP F_client_Client_read_c1 = true := by kernel_rfl
section
variable {w0 w : World} {F Cd : Asn} {p o ph b14 b3 g n k : Nat} {x : Cl} {y : Opn} {sc : Slc} {rs : Rws} {c : Cfg} {L : Lb}
theorem collect_c (hL : L.length ≤ 255) (H : Hp w0 w (star (bk b14 Ty_sl_api_Part #[Slc.nil.v]) (star (bk b3 Ty_p_client_Client #[.pointer (some (blk p))]) (star (cliA p x) (star (phA ph (c, lr L)) F))))) :
    Calls PP F_client_reply_Each #[.pointer (some (blk ph)), .func (.func F_client_Client_read_c1) #[] #[.pointer (some (blk b14)), .pointer (some (blk b3))]] w (Rt fun v w' => v = .tuple #[] ∧
      ∃ i, i ≤ L.length ∧ ((i = L.length ∧ ∀ j, j < i → ((psOf L (j + 1)).length : Int) < x.cfg.K) ∨ (∃ j, i = j + 1 ∧ x.cfg.K ≤ ((psOf L (j + 1)).length : Int) ∧ ∀ j', j' < j → ((psOf L (j' + 1)).length : Int) < x.cfg.K)) ∧ Hp w0 w' (star (phA ph (c, lr L)) (star (coA p b14 b3 x (psOf L i)) F))) := by
  have hll : (keysOf (lr L)).length = L.length := by rw [keysOf_len]; unfold lr; rw [List.length_map]
  have H := (((H.blk b3).blk b14).nilRow Ty_api_Part 2).swap
  have H : Hp w0 w (star (coA p b14 b3 x (psOf L 0)) (star (phA ph (c, lr L)) F)) := (H.ent ((Ent.star (Ent.refl _) ((Ent.star (Ent.refl _) assoc').trans assoc')).trans assoc')).exI (f := fun s : Slc => star (bk b14 Ty_sl_api_Part #[s.v]) (star (own Ty_api_Part 2 s ((psOf L 0).flatMap Pt.enc)) (star (bk b3 Ty_p_client_Client #[.pointer (some (blk p))]) (cliA p x)))) Slc.nil
  refine Rt.mono (peach_c (J := fun i => coA p b14 b3 x (psOf L i)) (stop := fun i => !decide (((psOf L (i + 1)).length : Int) < x.cfg.K)) (by rw [← keysOf_len, hll]; omega) ⟨_, _, _, rfl⟩ (fun i hi w' A _ H => ?_) H.swap) ?_
  · refine ⟨F_client_Client_read_c1, _, rfl, body_read, ?_⟩
    obtain ⟨s, H⟩ := H.ex
    have H := H.ent fr3
    have hk := llook_lr L (keysOf (lr L))[i]
    generalize hr : (llook (lr L) (keysOf (lr L))[i]).getD Rp.no = r
    refine sim_client_Client_read_c1 _ _ _ _ _ _ _ _ _ ?_
    unfold vc_client_Client_read_c1
    have hpl := psOf_len L i
    have hsl : s.l = (psOf L i).length := Cel.flen (enc := Pt.enc) pt_len (H.cel (s := s)) (by decide)
    refine H.new fun b8 w1 H => ⟨fun w' => Hp w0 w' (star (coA p b14 b3 x (psOf L (i + 1))) A), ⟨fun hh => ⟨_, H.cell (b := b14) (i := 0) rfl, ?_⟩, fun hh => ?_⟩, ?_⟩
    · have hp : ptAt L (keysOf (lr L))[i] = [⟨(keysOf (lr L))[i], r.data, ((lkB L (keysOf (lr L))[i]).map (·.2)).getD []⟩] := by
        unfold ptAt
        rw [← hr, hk] at hh ⊢
        cases hz : lkB L (keysOf (lr L))[i] with
        | none => rw [hz] at hh; exact absurd hh (by decide)
        | some z => rw [hz] at hh; simp only [Option.map_some, Option.getD_some] at hh ⊢; rw [if_pos hh]
      refine H.newRow (e := Ty_api_Part) (n := 1) (size := 2) (Pt.enc ⟨(keysOf (lr L))[i], r.data, ((lkB L (keysOf (lr L))[i]).map (·.2)).getD []⟩) rfl rfl (by decide) fun b30 w2 H => ?_
      refine H.app (s := s) slT_sl_api_Part (H.cel (s := ⟨some (blk b30), 1, 1⟩)) (fun u hu => one_pt [⟨(keysOf (lr L))[i], r.data, ((lkB L (keysOf (lr L))[i]).map (·.2)).getD []⟩] u (by simpa using hu)) (by unfold maxLen; simp only; omega) (by simp only; omega) fun s' w3 H _ => ?_
      have H := (H.own ⟨some (blk b30), 1, 1⟩).drop
      refine H.sto (b := b14) (i := 0) (by simp) fun w4 H => ?_
      rw [psOf_succ hi, hp]
      refine Hp.exI (f := fun s : Slc => star (bk b14 Ty_sl_api_Part #[s.v]) (star (own Ty_api_Part 2 s ((psOf L i ++ [(⟨(keysOf (lr L))[i], r.data, ((lkB L (keysOf (lr L))[i]).map (·.2)).getD []⟩ : Pt)]).flatMap Pt.enc)) (star (bk b3 Ty_p_client_Client #[.pointer (some (blk p))]) (cliA p x)))) s' ?_
      refine Hp.ent ?_ to3
      rw [List.flatMap_append, List.flatMap_cons, List.flatMap_nil, List.append_nil]
      exact ((((H.blk b8).drop.take (cliA p x)).blk b3).own s').blk b14
    · have hp : ptAt L (keysOf (lr L))[i] = [] := by
        unfold ptAt
        rw [← hr, hk] at hh
        cases hz : lkB L (keysOf (lr L))[i] with
        | none => rfl
        | some z => rw [hz] at hh; simp only [Option.map_some, Option.getD_some] at hh ⊢; rw [if_neg (by rw [hh]; decide)]
      rw [psOf_succ hi, hp, List.append_nil]
      exact Hp.exI (f := fun s : Slc => star (bk b14 Ty_sl_api_Part #[s.v]) (star (own Ty_api_Part 2 s ((psOf L i).flatMap Pt.enc)) (star (bk b3 Ty_p_client_Client #[.pointer (some (blk p))]) (cliA p x)))) s (((H.blk b8).drop).ent to3)
    · rintro w2 H
      obtain ⟨s', H⟩ := H.ex
      have H := H.ent fr3
      have hsl' : s'.l = (psOf L (i + 1)).length := Cel.flen (enc := Pt.enc) pt_len (H.cel (s := s')) (by decide)
      obtain ⟨gm, H2⟩ := cl_open (H.take (cliA p x))
      refine ⟨_, H.cell (b := b14) (i := 0) rfl, _, H.cell (b := b3) (i := 0) rfl, _, rfl, _, H2.cell2 (b := p) (i := 0) (j := 1) rfl, fun q => Rt.ok ⟨by rw [hsl', Bool.not_not], ?_⟩⟩
      exact Hp.exI (f := fun s : Slc => star (bk b14 Ty_sl_api_Part #[s.v]) (star (own Ty_api_Part 2 s ((psOf L (i + 1)).flatMap Pt.enc)) (star (bk b3 Ty_p_client_Client #[.pointer (some (blk p))]) (cliA p x)))) s' ((H.drew q).ent to3)
  · rintro v w1 ⟨rfl, i, hi, hd, H⟩
    refine ⟨rfl, i, by omega, ?_, H⟩
    rcases hd with ⟨h1, h2⟩ | ⟨j, h1, h2, h3⟩
    · exact .inl ⟨by omega, fun j hj => by have := h2 j hj; simpa using this⟩
    · exact .inr ⟨j, h1, by simpa using h2, fun j' hj' => by have := h3 j' hj'; simpa using this⟩
theorem rdPs (H : Hp w0 w (star (all rdD L) F)) {i : Nat} : ∀ q ∈ psOf L i, Byt w q.sl q.bs := by
  intro q hq
  obtain ⟨k, _, hq⟩ := List.mem_flatMap.1 hq
  unfold ptAt lkB at hq
  cases hf : L.find? fun z => decide (z.1 = k) with
  | none => rw [hf] at hq; exact nomatch hq
  | some z =>
    rw [hf] at hq
    simp only [Option.map_some] at hq
    split at hq
    · rw [List.mem_singleton.1 hq]
      obtain ⟨j, hj, e⟩ := List.getElem_of_mem (List.mem_of_find?_eq_some hf)
      have H := H.ent (Ent.star (all_at rdD L j hj) (Ent.refl _))
      rw [e] at H
      have H : Hp w0 w (star (own Ty_uint8 1 z.2.1.data (z.2.2.map u8v)) _) := H.assoc
      exact H.cel (s := z.2.1.data)
    · exact nomatch hq
def reB (o3 : Option Nat) (o4 : Option Unit) (R : Rs) (A : Asn) : Asn :=
  match o3, o4 with
  | none, _ => A
  | some b, none => star (bk b Ty_api_Result #[.int .i64 0, .bool false, .int .i64 0, .int .i64 0, .int .i64 0, Slc.nil.v]) A
  | some b, some _ => star (bk b Ty_api_Result #[.int .i64 R.op, .bool R.put, .int .i64 R.status, .int .i64 R.tag.n, .int .i64 R.tag.c, R.val.v]) A
abbrev reA (p o b3 b6 : Nat) (x : Cl) (y : Opn) (A : Asn) : Asn := star (bk b6 Ty_api_Result #[.int .i64 0, .bool false, .int .i64 0, .int .i64 0, .int .i64 0, Slc.nil.v]) (star (bk b3 Ty_p_client_Client #[.pointer (some (blk p))]) (star (cliA p x) (star (opnA o y) A)))
theorem read_c {val : List UInt8} (hG : ErrG w0) (hC : ∀ {w' : World} {A' : Asn}, Hp w0 w' (star Cd A') → RdCode w' x.cd g sc rs n k) (hk : x.cfg.K = (k : Int)) (hnow : x.now = some o) (hL : L.length ≤ 255) (hfull : k ≤ (psOf L L.length).length) (hfr : ∀ i, Frags n k (mt rs) val (psOf L i)) (hvl : val.length ≤ 65536)
    (H : Hp w0 w (star (cliA p x) (star (opnA o y) (star (phA y.ph (c, lr L)) (star (all rdD L) (star Cd F)))))) :
    Calls PP F_client_Client_read #[.pointer (some (blk p))] w (Rt fun v w' => ∃ o2, v = .tuple #[Slc.v Slc.nil, (Rs.mk y.op y.put 0 y.tag o2).v, .bool true] ∧ Hp w0 w' (star (own Ty_uint8 1 o2 (val.map u8v)) (star (cliA p { x with now := none }) (star Cd F)))) := by
  have hRC := hC (H.take Cd)
  have hk1 := hRC.hk
  have hkn := hRC.hkn
  have hn2 := hRC.hn
  have hgen := hRC.gen
  clear hRC
  refine sim_client_Client_read _ _ _ ?_
  unfold vc_client_Client_read
  refine H.new fun b3 w1 H => H.new fun b6 w2 H => ⟨_, rfl, _, rd_now (x := x) H hnow, H.new fun b14 w3 H => ⟨_, rfl, _, rd_ph (y := y) H, call (collect_c (L := L) (c := c) (x := x) hL ((((H.take (phA y.ph (c, lr L))).take (cliA p x)).blk b3).blk b14)) ?_⟩⟩
  rintro _ w4 ⟨rfl, i, hi, hd, H⟩
  have hlen : (psOf L i).length = k := by
    rw [hk] at hd
    rcases hd with ⟨h1, h2⟩ | ⟨j, h1, h2, h3⟩
    · exfalso
      subst h1
      cases hz : L.length with
      | zero => rw [hz] at hfull; have := psOf_len L 0; omega
      | succ q => have := h2 q (by omega); rw [← hz] at this; omega
    · subst h1
      cases j with
      | zero => have := psOf_len L (0 + 1); omega
      | succ q =>
        have h4 := h3 q (by omega)
        by_cases hq : q + 1 < (keysOf (lr L)).length
        · rw [psOf_succ hq, List.length_append] at h2 ⊢
          have := ptAt_len L (keysOf (lr L))[q + 1]
          omega
        · have e : psOf L (q + 1 + 1) = psOf L (q + 1) := by unfold psOf; rw [List.take_of_length_le (by omega), List.take_of_length_le (by omega)]
          rw [e] at h2; omega
  obtain ⟨s, H⟩ := (H.take (coA p b14 b3 x (psOf L i))).ex
  have H := H.ent fr3
  obtain ⟨gm, H2⟩ := cl_open (H.take (cliA p x))
  have hsl : s.l = (psOf L i).length := Cel.flen (enc := Pt.enc) pt_len (H.cel (s := s)) (by decide)
  refine ⟨rfl, _, H.cell (b := b14) (i := 0) rfl, _, H.cell (b := b3) (i := 0) rfl, _, rfl, _, H2.cell2 (b := p) (i := 0) (j := 1) rfl, fun q => ⟨fun _ => ?_, fun h => ?_⟩⟩
  · have H := (H.drew q).drew 1
    obtain ⟨gm, H2⟩ := cl_open (H.take (cliA p x))
    refine ⟨_, H.cell (b := b3) (i := 0) rfl, _, rfl, _, H2.cell (b := p) (i := 4) rfl, _, H.cell (b := b14) (i := 0) rfl, ?_⟩
    have hfi := hfr i
    refine call (join_c (hG.fr0 H.fr) (hC (H.take Cd)) ⟨H.cel (s := s), rdPs (H.take (all rdD L))⟩ (by omega) fun q hq => ?_) ?_
    · rw [hfi.len q hq]
      unfold sizeN
      have := Nat.div_le_self (val.length + 4 + k - 1) k
      omega
    rintro v w5 hJ
    obtain ⟨o2, rfl, J⟩ := join_all hgen hn2 hk1 hkn hvl hfi (by omega) hJ
    have H := H.join J
    refine ⟨_, _, rfl, some (blk p), y.tag.n, y.tag.c, fun o1 o3 o4 w' => (o1 = none ∧ Hp w0 w' (reB o3 none (Rs.mk y.op y.put 0 y.tag o2) (reA p o b3 b6 x y (star (own Ty_uint8 1 o2 (val.map u8v)) (star Cd F))))) ∨ (o1 = some (y.op, y.put, 0, y.tag.n, y.tag.c, o2, true) ∧ Hp w0 w' (reB o3 o4 (Rs.mk y.op y.put 0 y.tag o2) (reA p o b3 b6 { x with now := none } y (star (own Ty_uint8 1 o2 (val.map u8v)) (star Cd F))))), .inl ⟨rfl, ?_⟩, ?_, ?_, ?_, ?_, ?_, ?_⟩
    · have H := (((((H.drew 1).blk b14).drop.own s).drop.take (all rdD L)).drop.take (phA y.ph (c, lr L))).drop
      exact (((((H.take Cd).own o2).take (opnA o y)).take (cliA p x)).blk b3).blk b6
    · rintro (_ | b) w6 (⟨_, H⟩ | ⟨h, _⟩)
      · have H : Hp w0 w6 (reA p o b3 b6 x y (star (own Ty_uint8 1 o2 (val.map u8v)) (star Cd F))) := H
        exact H.cell (b := b3) (i := 0) rfl
      · exact nomatch h
      · have H : Hp w0 w6 (star (bk b Ty_api_Result #[.int .i64 0, .bool false, .int .i64 0, .int .i64 0, .int .i64 0, Slc.nil.v]) (reA p o b3 b6 x y (star (own Ty_uint8 1 o2 (val.map u8v)) (star Cd F)))) := H
        exact H.cell (b := b3) (i := 0) rfl
      · exact nomatch h
    · rintro (_ | b) w6 (⟨_, H⟩ | ⟨h, _⟩)
      · have H : Hp w0 w6 (reA p o b3 b6 x y (star (own Ty_uint8 1 o2 (val.map u8v)) (star Cd F))) := H
        exact ⟨rd_tagn (y := y) H, rd_tagc (y := y) H⟩
      · exact nomatch h
      · have H : Hp w0 w6 (star (bk b Ty_api_Result #[.int .i64 0, .bool false, .int .i64 0, .int .i64 0, .int .i64 0, Slc.nil.v]) (reA p o b3 b6 x y (star (own Ty_uint8 1 o2 (val.map u8v)) (star Cd F)))) := H
        exact ⟨rd_tagn (y := y) H, rd_tagc (y := y) H⟩
      · exact nomatch h
    · rintro (_ | b) w6 (⟨_, H⟩ | ⟨h, _⟩)
      · have H : Hp w0 w6 (reA p o b3 b6 x y (star (own Ty_uint8 1 o2 (val.map u8v)) (star Cd F))) := H
        refine call (end_c (t := y.tag) (v := o2) (e := 0) hnow ((H.take (opnA o y)).take (cliA p x))) ?_
        rintro _ w7 ⟨rfl, H⟩
        exact ⟨_, _, _, _, _, _, _, rfl, .inr ⟨rfl, (((H.take (opnA o y)).take (cliA p { x with now := none })).blk b3).blk b6⟩⟩
      · exact nomatch h
      · have H : Hp w0 w6 (star (bk b Ty_api_Result #[.int .i64 0, .bool false, .int .i64 0, .int .i64 0, .int .i64 0, Slc.nil.v]) (reA p o b3 b6 x y (star (own Ty_uint8 1 o2 (val.map u8v)) (star Cd F)))) := H
        refine call (end_c (t := y.tag) (v := o2) (e := 0) hnow ((H.take (opnA o y)).take (cliA p x))) ?_
        rintro _ w7 ⟨rfl, H⟩
        exact ⟨_, _, _, _, _, _, _, rfl, .inr ⟨rfl, ((((H.take (opnA o y)).take (cliA p { x with now := none })).blk b3).blk b6).blk b⟩⟩
      · exact nomatch h
    · rintro o1 w6 (⟨rfl, H⟩ | ⟨rfl, H⟩)
      · have H : Hp w0 w6 (reA p o b3 b6 x y (star (own Ty_uint8 1 o2 (val.map u8v)) (star Cd F))) := H
        exact H.new fun b w7 H => .inl ⟨rfl, H⟩
      · have H : Hp w0 w6 (reA p o b3 b6 { x with now := none } y (star (own Ty_uint8 1 o2 (val.map u8v)) (star Cd F))) := H
        exact H.new fun b w7 H => .inr ⟨rfl, H⟩
    · rintro k1 k2 k3 k4 k5 k6 k7 b w6 (⟨h, _⟩ | ⟨h, H⟩)
      · exact nomatch h
      · have hh := h
        simp only [Option.some.injEq, Prod.mk.injEq] at h
        obtain ⟨rfl, rfl, rfl, rfl, rfl, rfl, rfl⟩ := h
        have H : Hp w0 w6 (star (bk b Ty_api_Result #[.int .i64 0, .bool false, .int .i64 0, .int .i64 0, .int .i64 0, Slc.nil.v]) (reA p o b3 b6 { x with now := none } y (star (own Ty_uint8 1 k6 (val.map u8v)) (star Cd F)))) := H
        exact H.stoAll (b := b) (by rfl) fun w7 H => .inr ⟨rfl, H⟩
    · rintro k1 k2 k3 k4 k5 k6 k7 b w6 (⟨h, _⟩ | ⟨h, H⟩)
      · exact nomatch h
      · simp only [Option.some.injEq, Prod.mk.injEq] at h
        obtain ⟨rfl, rfl, rfl, rfl, rfl, rfl, rfl⟩ := h
        have H : Hp w0 w6 (star (bk b Ty_api_Result #[.int .i64 y.op, .bool y.put, .int .i64 0, .int .i64 y.tag.n, .int .i64 y.tag.c, k6.v]) (reA p o b3 b6 { x with now := none } y (star (own Ty_uint8 1 k6 (val.map u8v)) (star Cd F)))) := H
        have H := H.drew 1
        refine ⟨_, H.cell (b := b) (i := 0) rfl, _, H.cell (b := b) (i := 1) rfl, _, H.cell (b := b) (i := 2) rfl, _, H.cell (b := b) (i := 3) rfl, _, H.cell (b := b) (i := 4) rfl, _, H.cell (b := b) (i := 5) rfl, H.stoAll (b := b6) (by rfl) fun w7 H => ⟨_, H.cell (b := b6) (i := 0) rfl, _, H.cell (b := b6) (i := 1) rfl, _, H.cell (b := b6) (i := 2) rfl, _, H.cell (b := b6) (i := 3) rfl, _, H.cell (b := b6) (i := 4) rfl, _, H.cell (b := b6) (i := 5) rfl, Rt.ok ⟨k6, rfl, ?_⟩⟩⟩
        have H := ((((H.blk b6).drop.blk b).drop.blk b3).drop.take (opnA o y)).drop
        exact (((H.take Cd).take (cliA p { x with now := none })).own k6)
  · exfalso
    rw [hsl, hlen, hk] at h
    simp at h
theorem metRead_c {val : List UInt8} (hG : ErrG w0) (hC : ∀ {w' : World} {A' : Asn}, Hp w0 w' (star Cd A') → RdCode w' x.cd g sc rs n k) (hk : x.cfg.K = (k : Int)) (hnow : x.now = some o) (hs : y.stg = .read) (hL : L.length ≤ 255) (hfull : k ≤ (psOf L L.length).length) (hfr : ∀ i, Frags n k (mt rs) val (psOf L i)) (hvl : val.length ≤ 65536)
    (H : Hp w0 w (star (cliA p x) (star (opnA o y) (star (phA y.ph (c, lr L)) (star (all rdD L) (star Cd F)))))) :
    Calls PP F_client_Client_met #[.pointer (some (blk p))] w (Rt fun v w' => ∃ o2, v = .tuple #[Slc.v Slc.nil, (Rs.mk y.op y.put 0 y.tag o2).v, .bool true] ∧ Hp w0 w' (star (own Ty_uint8 1 o2 (val.map u8v)) (star (cliA p { x with now := none }) (star Cd F)))) := by
  refine sim_client_Client_met _ _ _ ?_
  unfold vc_client_Client_met
  refine H.new fun b3 w1 H => ⟨_, rfl, _, rd_now (x := x) H hnow, H.new fun b11 w2 H => ⟨fun _ _ => False, ⟨_, rfl, _, rd_stg (y := y) H, tasA ⟨_, rfl, fun h => ?_, fun _ => tasW ⟨_, rfl, fun h => ?_, fun _ => tasF ⟨_, rfl, fun h => ?_, fun _ => tasR ⟨_, rfl, fun _ => ?_, fun h => ?_⟩⟩⟩⟩⟩, fun _ _ h => h.elim⟩⟩
  · rw [hs] at h; exact absurd h (by decide)
  · rw [hs] at h; exact absurd h (by decide)
  · rw [hs] at h; exact absurd h (by decide)
  · refine call (read_c (L := L) (c := c) hG hC hk hnow hL hfull hfr hvl (((((H.take Cd).take (all rdD L)).take (phA y.ph (c, lr L))).take (opnA o y)).take (cliA p x))) ?_
    rintro _ w3 ⟨o2, rfl, H⟩
    refine ⟨_, _, _, _, _, _, _, _, rfl, H.stoAll (b := b3) (by rfl) fun w4 H => ⟨_, H.cell (b := b3) (i := 0) rfl, _, H.cell (b := b3) (i := 1) rfl, _, H.cell (b := b3) (i := 2) rfl, _, H.cell (b := b3) (i := 3) rfl, _, H.cell (b := b3) (i := 4) rfl, _, H.cell (b := b3) (i := 5) rfl, Rt.ok ⟨o2, rfl, ?_⟩⟩⟩
    exact (((((H.blk b3).drop.blk b11).drop.take Cd).take (cliA p { x with now := none })).own o2)
  · rw [hs] at h; exact absurd h (by decide)
end
end Go.Proofs.YtabifopphhpciaaGreatDoor

namespace Go.Vc
open Go Go.Vc.Asn
section
variable {w0 w : World} {F : Asn} {e size : Nat} {s : Slc} {cs c : List Value}
end
end Go.Vc

namespace Go.Proofs.YtabifopphhpciaaGreatDoor
open Go Go.Vc Go.Vc.Asn Go.Gf
section
variable {w0 w : World} {F A : Asn} {p o tp b141 : Nat} {x : Cl} {y : Opn} {m : Ms} {s sv : Slc} {nz : List Ms} {xs : List Pl} {N K D : Int}
abbrev MsU := Int × Int × Int × Int × ByteArray × Int × Int × Int × Int × Bool × Slc
def msU (a : Ms) : MsU := (a.k, a.cl, a.sv, a.op, a.key, a.tag.n, a.tag.c, a.top.n, a.top.c, a.has, a.data)
abbrev tnA (tp : Nat) (sv : Slc) (xs : List Pl) (N K D : Int) (F : Asn) : Asn := star (bk tp Ty_sherdlaw18_Town #[.int .i64 N, .int .i64 K, .int .i64 D, Slc.v sv]) (star (own Ty_p_sherdlaw18_Plain 1 sv (xs.map plV)) (star (all plA xs) F))
theorem plV_set {x' : Pl} {j : Nat} (hj : j < xs.length) (h : x'.b = xs[j].b) : (xs.set j x').map plV = xs.map plV := by
  have e : plV x' = (xs.map plV)[j]'(by simpa using hj) := by rw [List.getElem_map]; show Value.pointer (some (blk x'.b)) = .pointer (some (blk xs[j].b)); rw [h]
  rw [List.map_set, e, List.set_getElem_self]
theorem pa_c {j : Nat} {R : Asn} (hj : j < xs.length) (hb : m.bs.length ≤ 1099511627776) (hl : xs[j].l.length ≤ 999999999) (hlb : ∀ h ∈ xs[j].abs, h.bs.length ≤ 1099511627776) (hk0 : 0 ≤ m.k) (hk1 : m.k ≤ 1000) (H : Hp w0 w (star (plA xs[j]) (star (mdA m) (star (all plA (xs.take j ++ xs.drop (j + 1))) R)))) :
    Calls PP F_sherdlaw18_Plain_answer #[.pointer (some (blk xs[j].b)), .agg m.c.toArray] w (Rt fun v w' => ∃ (x' : Pl) (a : Ms), v = .agg a.c.toArray ∧ x'.b = xs[j].b ∧ x'.abs = (plAns xs[j].abs m.abs).1 ∧ a.abs = (plAns xs[j].abs m.abs).2 ∧ Hp w0 w' (star (mdA a) (star (mdA m) (star (all plA (xs.set j x')) R)))) := by
  refine Rt.mono (plAns_c (Vp := mdA m) (fun {w' A'} (H : Hp w0 w' (star (own Ty_uint8 1 m.data (m.bs.map u8v)) A')) => H.cel (s := m.data)) hb hl hlb hk0 hk1 H) ?_
  rintro v w6 ⟨x', a, rfl, h1, h2, h3, H⟩
  refine ⟨x', a, rfl, h1, h2, h3, ?_⟩
  have H := (H.take (all plA (xs.take j ++ xs.drop (j + 1)))).take (plA x')
  exact (((H.assoc'.ent (Ent.star (all_put plA x' xs j hj) (Ent.refl _))).take (mdA m)).take (mdA a))
theorem all_app {α : Type} (f : α → Asn) (l' : List α) : ∀ l : List α, Ent (star (all f l) (all f l')) (all f (l ++ l'))
  | [] => emp_l'
  | _ :: l => assoc.trans (Ent.star (Ent.refl _) (all_app f l' l))
end
end Go.Proofs.YtabifopphhpciaaGreatDoor
