/-
  Plain servers: what they hold, what they answer.
-/
import Derived.Test.YtabifopphhpciaaGreatDoorM7
import Derived.Test.YtabifopphhpciaaGreatDoorM5
import Derived.ArgAppend
namespace Go.Vc
open Go Go.Vc.Asn
section
variable {α : Type} {enc : α → List Value} {k : Nat}
theorem fset (hk : ∀ x, (enc x).length = k) {y : α} {v : Value} {j : Nat} (hj : j < k) : ∀ (l : List α) (i : Nat) (h : i < l.length), enc y = (enc l[i]).set j v → (l.flatMap enc).set (i * k + j) v = (l.set i y).flatMap enc
  | [], i, h, _ => by simp at h
  | x :: l, 0, _, hy => by
    simp only [List.flatMap_cons, Nat.zero_mul, Nat.zero_add, List.set_cons_zero]
    simp only [List.getElem_cons_zero] at hy
    rw [List.set_append_left _ _ (by rw [hk]; exact hj), hy]
  | x :: l, i + 1, h, hy => by
    simp only [List.flatMap_cons, List.set_cons_succ]
    simp only [List.getElem_cons_succ] at hy
    have e : (i + 1) * k + j = k + (i * k + j) := by rw [Nat.add_mul]; omega
    rw [List.set_append_right _ _ (by rw [hk]; omega), hk, e, Nat.add_sub_cancel_left, fset hk hj l i (by simpa using h) hy]
theorem Hp.stoF {e : Nat} {w0 w : World} {F : Asn} {s : Slc} {l : List α} {i j : Nat} {a : Addr} {v : Value} {y : α} (hk : ∀ x, (enc x).length = k) (H : Hp w0 w (star (Asn.own e k s (l.flatMap enc)) F)) (hi : i < l.length) (hj : j < k) (ha : s.a = some a) (hy : enc y = (enc l[i]).set j v) {K : World → Prop}
    (h : ∀ w', Hp w0 w' (star (Asn.own e k s ((l.set i y).flatMap enc)) F) → K w') : Sto w ((a.add (Int.toNat (i : Int) * k)).add j) v K := by
  have hle : i * k + k ≤ l.length * k := by rw [← Nat.succ_mul]; exact Nat.mul_le_mul_right _ hi
  have hl : i * k + j < (l.flatMap enc).length := by rw [flat_len hk]; omega
  rw [Int.toNat_natCast, add_add]
  refine H.stoS (s := s) hl ha fun w' H => h w' ?_
  rw [fset hk hj l i hi hy] at H
  exact H
end
structure Hd where
  tag : Tg
  fin : Bool
  has : Bool
  data : Slc
  bs : List UInt8
abbrev Hd.c (h : Hd) : List Value := [.int .i64 h.tag.n, .int .i64 h.tag.c, .bool h.fin, .bool h.has, h.data.v]
structure Ha where
  tag : Tg
  fin : Bool
  has : Bool
  bs : List UInt8
def Hd.abs (h : Hd) : Ha := ⟨h.tag, h.fin, h.has, h.bs⟩
structure Pl where
  b : Nat
  s : Slc
  l : List Hd
def Pl.abs (x : Pl) : List Ha := x.l.map Hd.abs
def topF (t : Tg) (h : Ha) : Tg := if h.fin then t.max h.tag else t
def plTop (l : List Ha) : Tg := l.foldl topF Tg.zero
def sameT (t : Tg) (h : Ha) : Bool := decide (h.tag.n = t.n) && decide (h.tag.c = t.c)
def plIdx (l : List Ha) (t : Tg) : Nat := l.findIdx (sameT t)
def plAdd (l : List Ha) (t : Tg) : List Ha := if plIdx l t < l.length then l else l ++ [⟨t, false, false, []⟩]
def Ha.give (bs : List UInt8) (h : Ha) : Ha := if h.has then h else { h with has := true, bs := bs }
def Ha.end (h : Ha) : Ha := { h with fin := true }
def modA (l : List Ha) (i : Nat) (f : Ha → Ha) : List Ha := l.set i (f (l.getD i ⟨Tg.zero, false, false, []⟩))
def plAns (l : List Ha) (m : Am) : List Ha × Am :=
  if m.k = 1 then (l, ⟨m.k + 1, m.cl, m.sv, m.op, m.key, m.tag, plTop l, false, []⟩)
  else if m.k = 3 then (modA (plAdd l m.tag) (plIdx l m.tag) (Ha.give m.bs), ⟨m.k + 1, m.cl, m.sv, m.op, m.key, m.tag, Tg.zero, false, []⟩)
  else
    let l2 := modA (plAdd l m.tag) (plIdx l m.tag) Ha.end
    if m.k = 7 then (l2, ⟨m.k + 1, m.cl, m.sv, m.op, m.key, m.tag, plTop l2, (l2.getD (plIdx l m.tag) ⟨Tg.zero, false, false, []⟩).has, (l2.getD (plIdx l m.tag) ⟨Tg.zero, false, false, []⟩).bs⟩)
    else (l2, ⟨m.k + 1, m.cl, m.sv, m.op, m.key, m.tag, Tg.zero, false, []⟩)
end Go.Vc
namespace Go.Proofs.YtabifopphhpciaaGreatDoor
open Go Go.Vc Go.Vc.Asn Go.Gf
def hdA (h : Hd) : Asn := own Ty_uint8 1 h.data (h.bs.map u8v)
def plA (x : Pl) : Asn := star (bk x.b Ty_sherdlaw18_Plain #[x.s.v]) (star (own Ty_sherdlaw18_Held 5 x.s (x.l.flatMap Hd.c)) (all hdA x.l))
theorem hd_len (h : Hd) : h.c.length = 5 := rfl
section
variable {w0 w : World} {F Vp : Asn} {x : Pl} {t : Tg} {m : Ms}
theorem pl_open (H : Hp w0 w (star (plA x) F)) : Hp w0 w (star (bk x.b Ty_sherdlaw18_Plain #[x.s.v]) (star (own Ty_sherdlaw18_Held 5 x.s (x.l.flatMap Hd.c)) (star (all hdA x.l) F))) := H.assoc.ent (Ent.star (Ent.refl _) assoc)
theorem pl_close (H : Hp w0 w (star (bk x.b Ty_sherdlaw18_Plain #[x.s.v]) (star (own Ty_sherdlaw18_Held 5 x.s (x.l.flatMap Hd.c)) (star (all hdA x.l) F)))) : Hp w0 w (star (plA x) F) := (H.ent (Ent.star (Ent.refl _) assoc')).assoc'
theorem rdHd {A : Asn} {s : Slc} {l : List Hd} [h : TakeS s A Ty_sherdlaw18_Held 5 (l.flatMap Hd.c) F] (H : Hp w0 w A) {i : Nat} (hi : i < l.length) : s.l = l.length ∧ ∃ a, s.a = some a ∧ ∀ j v, l[i].c[j]? = some v → w.cell? ((a.add (Int.toNat (i : Int) * 5)).add j) = some v := by
  have hc : Cel w s 5 (l.flatMap Hd.c) := (H.ent h.e).cel (s := s)
  obtain ⟨a, ha, he⟩ := Cel.elem (enc := Hd.c) hd_len hc (List.getElem?_eq_getElem hi) (by decide)
  exact ⟨Cel.flen (enc := Hd.c) hd_len hc (by decide), a, ha, he⟩
theorem hdLen {A : Asn} {s : Slc} {l : List Hd} [h : TakeS s A Ty_sherdlaw18_Held 5 (l.flatMap Hd.c) F] (H : Hp w0 w A) : s.l = l.length := Cel.flen (enc := Hd.c) hd_len ((H.ent h.e).cel (s := s)) (by decide)
theorem plTop_c (hl : x.l.length ≤ 1099511627776) (H : Hp w0 w (star (plA x) F)) : Calls PP F_sherdlaw18_Plain_top #[.pointer (some (blk x.b))] w (Rt fun v w' => v = (plTop x.abs).v ∧ Fr [] w w') := by
  have H0 := pl_open H
  clear H
  refine sim_sherdlaw18_Plain_top _ _ _ ?_
  unfold vc_sherdlaw18_Plain_top
  refine nw fun b3 w1 J f1 => J.new fun b7 w2 J => ?_
  refine ⟨fun z w' => ∃ i : Nat, z = (i : Int) ∧ i ≤ x.l.length ∧ Hp w w' (star (bk b7 Ty_api_Tag #[.int .i64 (plTop (x.abs.take i)).n, .int .i64 (plTop (x.abs.take i)).c]) (star (bk b3 Ty_api_Tag #[.int .i64 0, .int .i64 0]) emp)), fun z _ => x.l.length - z.toNat, ⟨0, rfl, Nat.zero_le _, J⟩, ?_⟩
  clear J
  rintro _ w3 ⟨i, rfl, hi, J⟩
  have H := H0.fr0 J.fr
  have hsl : x.s.l = x.l.length := hdLen H
  refine ⟨_, rfl, _, H.cell (b := x.b) (i := 0) rfl, fun h => ?_, fun h => ?_⟩
  · have hlt : i < x.l.length := by have := of_decide_eq_true h; omega
    have e1 : wr .i64 ((i : Int) + 1) = ((i + 1 : Nat) : Int) := by rw [wr64 (by omega) (by omega)]; omega
    obtain ⟨-, a, ha, he⟩ := rdHd (s := x.s) H hlt
    have hstep : plTop (x.abs.take (i + 1)) = topF (plTop (x.abs.take i)) x.l[i].abs := by
      unfold plTop
      rw [List.take_succ_eq_append_getElem (by unfold Pl.abs; simpa using hlt), List.foldl_append]
      unfold Pl.abs
      simp
    refine ⟨fun w' => Hp w w' (star (bk b7 Ty_api_Tag #[.int .i64 (plTop (x.abs.take (i + 1))).n, .int .i64 (plTop (x.abs.take (i + 1))).c]) (star (bk b3 Ty_api_Tag #[.int .i64 0, .int .i64 0]) emp)), ⟨_, H.cell (b := x.b) (i := 0) rfl, a, ha, by omega, by omega, x.l[i].fin, he 2 _ rfl, fun hf => ?_, fun hf => ?_⟩, fun w4 J => ?_⟩
    · have J := J.drew 1
      have H := H0.fr0 J.fr
      obtain ⟨-, a', ha', he⟩ := rdHd (s := x.s) H hlt
      obtain rfl : a = a' := by rw [ha] at ha'; injection ha'
      refine ⟨_, J.cell (b := b7) (i := 0) rfl, _, J.cell (b := b7) (i := 1) rfl, _, H.cell (b := x.b) (i := 0) rfl, a, ha, by omega, by omega, x.l[i].tag.n, by rw [add_add]; exact he 0 _ rfl, x.l[i].tag.c, by rw [add_add]; exact he 1 _ rfl, ?_⟩
      refine J.newRow (e := Ty_api_Tag) (n := 2) (size := 2) ((plTop (x.abs.take i)).cells ++ x.l[i].tag.cells) rfl rfl (by decide) fun b50 w5 J => ?_
      refine call (tmax_c (J.cel (s := ⟨some (blk b50), 2, 2⟩))) ?_
      rintro _ w6 ⟨rfl, f6⟩
      have J := (J.fr0 f6).drop
      refine ⟨_, _, rfl, J.stoAll (b := b7) (by rfl) fun w7 J => ?_⟩
      rw [hstep]
      unfold topF
      rw [show x.l[i].abs.fin = true from hf, if_pos rfl]
      exact J.blk b7
    · rw [hstep]
      unfold topF
      rw [show x.l[i].abs.fin = false from hf]
      exact J
    · rw [e1]
      exact ⟨⟨i + 1, rfl, hlt, J⟩, by show x.l.length - ((i + 1 : Nat) : Int).toNat < x.l.length - ((i : Nat) : Int).toNat; omega⟩
  · have hie : i = x.l.length := by have := of_decide_eq_false h; omega
    refine ⟨_, J.cell (b := b7) (i := 0) rfl, _, J.cell (b := b7) (i := 1) rfl, J.stoAll (b := b3) (by rfl) fun w4 J => ⟨_, J.cell (b := b3) (i := 0) rfl, _, J.cell (b := b3) (i := 1) rfl, Rt.ok ⟨?_, J.fr⟩⟩⟩
    rw [List.take_of_length_le (by unfold Pl.abs; rw [List.length_map]; omega)]
abbrev hd0 (t : Tg) : Hd := ⟨t, false, false, Slc.nil, []⟩
theorem one_hd (l : List Hd) : ∀ u ∈ l.flatMap Hd.c, u.oneCell' = true := by
  intro u hu
  obtain ⟨h, _, hu⟩ := List.mem_flatMap.1 hu
  simp only [List.mem_cons, List.not_mem_nil, or_false] at hu
  rcases hu with rfl | rfl | rfl | rfl | rfl <;> rfl
theorem plIdx_le (l : List Ha) (t : Tg) : plIdx l t ≤ l.length := List.findIdx_le_length
theorem plFind_c (hl : x.l.length ≤ 1000000000) (H : Hp w0 w (star (plA x) F)) : Calls PP F_sherdlaw18_Plain_find #[.pointer (some (blk x.b)), t.v] w (Rt fun v w' => ∃ x' : Pl, v = .int .i64 ((plIdx x.abs t : Nat) : Int) ∧ x'.b = x.b ∧ x'.abs = plAdd x.abs t ∧ plIdx x.abs t < x'.l.length ∧ Hp w0 w' (star (plA x') F)) := by
  have H := pl_open H
  refine sim_sherdlaw18_Plain_find _ _ _ _ _ ?_
  unfold vc_sherdlaw18_Plain_find
  refine H.new fun b5 w1 H => ?_
  have hal : x.abs.length = x.l.length := by unfold Pl.abs; rw [List.length_map]
  refine ⟨fun z w' => ∃ i : Nat, z = (i : Int) ∧ i ≤ plIdx x.abs t ∧ Hp w0 w' (star (bk b5 Ty_api_Tag #[.int .i64 t.n, .int .i64 t.c]) (star (bk x.b Ty_sherdlaw18_Plain #[x.s.v]) (star (own Ty_sherdlaw18_Held 5 x.s (x.l.flatMap Hd.c)) (star (all hdA x.l) F)))), fun z _ => x.l.length - z.toNat, ⟨0, rfl, Nat.zero_le _, H⟩, ?_⟩
  clear H
  rintro _ w3 ⟨i, rfl, hi, H⟩
  have hsl : x.s.l = x.l.length := hdLen H
  have hxl := plIdx_le x.abs t
  refine ⟨_, rfl, _, H.cell (b := x.b) (i := 0) rfl, fun h => ?_, fun h => ?_⟩
  · have hlt : i < x.l.length := by have := of_decide_eq_true h; omega
    have e1 : wr .i64 ((i : Int) + 1) = ((i + 1 : Nat) : Int) := by rw [wr64 (by omega) (by omega)]; omega
    obtain ⟨-, a, ha, he⟩ := rdHd (s := x.s) H hlt
    have hat : x.abs[i]'(by omega) = x.l[i].abs := by unfold Pl.abs; rw [List.getElem_map]
    refine ⟨_, H.cell (b := x.b) (i := 0) rfl, a, ha, by omega, by omega, x.l[i].tag.n, by rw [add_add]; exact he 0 _ rfl, x.l[i].tag.c, by rw [add_add]; exact he 1 _ rfl, _, H.cell (b := b5) (i := 0) rfl, _, H.cell (b := b5) (i := 1) rfl, fun q => ⟨fun hs => ?_, fun hs => ?_⟩⟩
    · have hs : sameT t (x.abs[i]'(by omega)) = true := by rw [hat]; exact hs
      have hix : plIdx x.abs t = i := Nat.le_antisymm (Nat.le_of_not_lt fun hc => by rw [List.not_of_lt_findIdx hc] at hs; exact nomatch hs) hi
      refine Rt.ok ⟨x, by rw [hix], rfl, ?_, by omega, pl_close ((H.drew q).blk b5).drop⟩
      unfold plAdd
      rw [if_pos (by omega)]
    · have hs : sameT t (x.abs[i]'(by omega)) = false := by rw [hat]; exact hs
      have hne : plIdx x.abs t ≠ i := fun hc => by
        have := List.findIdx_getElem (p := sameT t) (xs := x.abs) (w := by show plIdx x.abs t < _; omega)
        have e : x.abs[List.findIdx (sameT t) x.abs]'(by show plIdx x.abs t < _; omega) = x.abs[i]'(by omega) := by congr 1
        rw [e, hs] at this
        exact nomatch this
      rw [e1]
      exact ⟨⟨i + 1, rfl, by omega, H.drew q⟩, by show x.l.length - ((i + 1 : Nat) : Int).toNat < x.l.length - ((i : Nat) : Int).toNat; omega⟩
  · have hie : plIdx x.abs t = x.l.length := by have := of_decide_eq_false h; omega
    have H := H.drew 1
    refine ⟨_, H.cell (b := x.b) (i := 0) rfl, _, H.cell (b := b5) (i := 0) rfl, _, H.cell (b := b5) (i := 1) rfl, ?_⟩
    refine H.newRow (e := Ty_sherdlaw18_Held) (n := 1) (size := 5) (Hd.c (hd0 t)) rfl rfl (by decide) fun b46 w4 H => ⟨H.cell (b := x.b) (i := 0) rfl, ?_⟩
    refine H.app (s := x.s) slT_sl_sherdlaw18_Held (H.cel (s := ⟨some (blk b46), 1, 1⟩)) (fun u hu => one_hd [(hd0 t)] u (by simpa using hu)) (by unfold maxLen; simp only; omega) (by simp only; omega) fun s' w5 H hl' => ?_
    have H := (H.own ⟨some (blk b46), 1, 1⟩).drop
    refine H.sto (b := x.b) (i := 0) (by simp) fun w6 H => ⟨_, H.cell (b := x.b) (i := 0) rfl, Rt.ok ⟨⟨x.b, s', x.l ++ [hd0 t]⟩, ?_, rfl, ?_, ?_, ?_⟩⟩
    · rw [hie, hl', wr64 (by simp only; omega) (by simp only; omega)]
      simp only
      congr 1
      omega
    · unfold plAdd
      rw [if_neg (by omega)]
      unfold Pl.abs
      rw [List.map_append]
      rfl
    · rw [hie]; simp
    · refine pl_close (x := ⟨x.b, s', x.l ++ [hd0 t]⟩) ?_
      show Hp w0 w6 (star (bk x.b Ty_sherdlaw18_Plain #[s'.v]) (star (own Ty_sherdlaw18_Held 5 s' ((x.l ++ [(hd0 t)]).flatMap Hd.c)) (star (all hdA (x.l ++ [(hd0 t)])) F)))
      rw [show (x.l ++ [hd0 t]).flatMap Hd.c = x.l.flatMap Hd.c ++ Hd.c (hd0 t) by simp]
      have H := ((H.blk b5).drop.nilRow Ty_uint8 1)
      have H : Hp w0 w6 (star (hdA (hd0 t)) _) := H
      have H := (((H.take (all hdA x.l)).take (hdA (hd0 t))).assoc').ent (Ent.star (all_snoc1 hdA (hd0 t) x.l) (Ent.refl _))
      exact (H.own s').blk x.b
theorem plAdd_mem {l : List Ha} {h : Ha} (hm : h ∈ plAdd l t) : h ∈ l ∨ h.bs = [] := by
  unfold plAdd at hm
  split at hm
  · exact .inl hm
  · rcases List.mem_append.1 hm with hm | hm
    · exact .inl hm
    · rw [List.mem_singleton.1 hm]; exact .inr rfl
theorem abs_at {l : List Hd} {i : Nat} (h : i < l.length) : (l.map Hd.abs).getD i ⟨Tg.zero, false, false, []⟩ = l[i].abs := by
  rw [List.getD_eq_getElem?_getD, List.getElem?_map, List.getElem?_eq_getElem h]; rfl
theorem mod_at {l : List Hd} {i : Nat} (h : i < l.length) {f : Ha → Ha} {y : Hd} (hy : y.abs = f l[i].abs) : (l.set i y).map Hd.abs = modA (l.map Hd.abs) i f := by
  unfold modA
  rw [abs_at h, List.map_set, hy]
theorem hdBs {l : List Hd} {i : Nat} (h : i < l.length) (H : Hp w0 w (star (all hdA l) F)) : Byt w l[i].data l[i].bs := by
  have H := H.ent (Ent.star (all_at hdA l i h) (Ent.refl _))
  have H : Hp w0 w (star (own Ty_uint8 1 l[i].data (l[i].bs.map u8v)) _) := H.assoc
  exact H.cel (s := l[i].data)
theorem hdPut {l : List Hd} {i : Nat} (h : i < l.length) {y : Hd} {s : Slc} (hs : y.data = s) {bs : List UInt8} (hb : y.bs = bs) (H : Hp w0 w (star (own Ty_uint8 1 s (bs.map u8v)) (star (all hdA l) F))) : Hp w0 w (star (all hdA (l.set i y)) F) := by
  subst hs hb
  have H : Hp w0 w (star (hdA y) (star (all hdA l) F)) := H
  have H := H.ent (Ent.star (Ent.refl _) (Ent.star (all_at hdA l i h) (Ent.refl _)))
  have H := H.ent (Ent.star (Ent.refl _) assoc)
  have H := H.swap.drop
  exact H.assoc'.ent (Ent.star (all_put hdA y l i h) (Ent.refl _))
theorem hdSame {l : List Hd} {i : Nat} (h : i < l.length) {y : Hd} (hs : y.data = l[i].data) (hb : y.bs = l[i].bs) (H : Hp w0 w (star (all hdA l) F)) : Hp w0 w (star (all hdA (l.set i y)) F) := by
  have e : hdA l[i] = hdA y := by unfold hdA; rw [hs, hb]
  have H := H.ent (Ent.star (all_at hdA l i h) (Ent.refl _))
  rw [e] at H
  exact H.ent (Ent.star (all_put hdA y l i h) (Ent.refl _))
abbrev anA (b14 b17 b21 : Nat) (m a : Ms) (F : Asn) : Asn := star (bk b21 Ty_api_Message a.c.toArray) (star (bk b17 Ty_api_Message #[.int .i64 0, .int .i64 0, .int .i64 0, .int .i64 0, .string (ByteArray.mk #[]), .int .i64 0, .int .i64 0, .int .i64 0, .int .i64 0, .bool false, Slc.v Slc.nil]) (star (bk b14 Ty_api_Message m.c.toArray) F))
theorem plAns_c (hV : ∀ {w' : World} {A' : Asn}, Hp w0 w' (star Vp A') → Byt w' m.data m.bs) (hb : m.bs.length ≤ 1099511627776) (hl : x.l.length ≤ 999999999) (hlb : ∀ h ∈ x.abs, h.bs.length ≤ 1099511627776) (hk0 : 0 ≤ m.k) (hk1 : m.k ≤ 1000) (H : Hp w0 w (star (plA x) (star Vp F))) :
    Calls PP F_sherdlaw18_Plain_answer #[.pointer (some (blk x.b)), .agg m.c.toArray] w (Rt fun v w' => ∃ (x' : Pl) (a : Ms), v = .agg a.c.toArray ∧ x'.b = x.b ∧ x'.abs = (plAns x.abs m.abs).1 ∧ a.abs = (plAns x.abs m.abs).2 ∧ Hp w0 w' (star (mdA a) (star (plA x') (star Vp F)))) := by
  refine sim_sherdlaw18_Plain_answer _ _ _ _ _ _ _ _ _ _ _ _ _ _ ?_
  unfold vc_sherdlaw18_Plain_answer
  refine H.new fun b14 w1 H => H.new fun b17 w2 H => H.new fun b21 w3 H => ?_
  have ek : wr .i64 (m.k + 1) = m.k + 1 := wr64 (by omega) (by omega)
  rw [ek]
  refine H.stoAll (b := b21) (by rfl) fun w4 H => ?_
  have H : Hp w0 w4 (anA b14 b17 b21 m ⟨m.k + 1, m.cl, m.sv, m.op, m.key, m.tag, Tg.zero, false, Slc.nil, []⟩ (star (plA x) (star Vp F))) := (((H.blk b14).blk b17).blk b21)
  refine ⟨_, H.cell (b := b14) (i := 0) rfl, fun h => ?_, fun h => ?_⟩
  · have h1 : m.k = 1 := of_decide_eq_true h
    refine call (plTop_c (x := x) (by omega) (H.take (plA x))) ?_
    rintro _ w5 ⟨rfl, f5⟩
    have H := H.fr0 f5
    refine ⟨_, _, rfl, StoN.two (H.sto2 (b := b21) (i := 7) (j := 0) (by simp) fun w6 H => H.sto2 (b := b21) (i := 7) (j := 1) (by simp) fun w7 H => ?_)⟩
    refine ⟨_, H.cell (b := b21) (i := 0) rfl, _, H.cell (b := b21) (i := 1) rfl, _, H.cell (b := b21) (i := 2) rfl, _, H.cell (b := b21) (i := 3) rfl, _, H.cell (b := b21) (i := 4) rfl, _, H.cell (b := b21) (i := 5) rfl, _, H.cell (b := b21) (i := 6) rfl, _, H.cell (b := b21) (i := 7) rfl, _, H.cell (b := b21) (i := 8) rfl, _, H.cell (b := b21) (i := 9) rfl, _, H.cell (b := b21) (i := 10) rfl, H.stoAll (b := b17) (by rfl) fun w8 H => ⟨_, H.cell (b := b17) (i := 0) rfl, _, H.cell (b := b17) (i := 1) rfl, _, H.cell (b := b17) (i := 2) rfl, _, H.cell (b := b17) (i := 3) rfl, _, H.cell (b := b17) (i := 4) rfl, _, H.cell (b := b17) (i := 5) rfl, _, H.cell (b := b17) (i := 6) rfl, _, H.cell (b := b17) (i := 7) rfl, _, H.cell (b := b17) (i := 8) rfl, _, H.cell (b := b17) (i := 9) rfl, _, H.cell (b := b17) (i := 10) rfl, Rt.ok ⟨x, ⟨m.k + 1, m.cl, m.sv, m.op, m.key, m.tag, plTop x.abs, false, Slc.nil, []⟩, rfl, rfl, ?_, ?_, ?_⟩⟩⟩
    · unfold plAns; rw [if_pos (show m.abs.k = 1 from h1)]
    · unfold plAns; rw [if_pos (show m.abs.k = 1 from h1)]; rfl
    · exact (((H.blk b17).drop.blk b21).drop.blk b14).drop.nilRow Ty_uint8 1
  have h1 : m.k ≠ 1 := of_decide_eq_false h
  refine ⟨_, H.cell2 (b := b14) (i := 5) (j := 0) rfl, _, H.cell2 (b := b14) (i := 5) (j := 1) rfl, call (plFind_c (x := x) (t := m.tag) (by omega) (H.take (plA x))) ?_⟩
  rintro _ w5 ⟨x1, rfl, hx1, hab, hix, H⟩
  generalize hI : plIdx x.abs m.tag = I at hix
  have H := pl_open H
  have H : Hp w0 w5 (anA b14 b17 b21 m ⟨m.k + 1, m.cl, m.sv, m.op, m.key, m.tag, Tg.zero, false, Slc.nil, []⟩ (star (bk x.b Ty_sherdlaw18_Plain #[x1.s.v]) (star (own Ty_sherdlaw18_Held 5 x1.s (x1.l.flatMap Hd.c)) (star (all hdA x1.l) (star Vp F))))) := by
    rw [hx1] at H
    exact (((H.blk b14).blk b17).blk b21)
  have hsl : x1.s.l = x1.l.length := hdLen H
  obtain ⟨-, a, ha, he⟩ := rdHd (s := x1.s) H hix
  refine ⟨_, rfl, _, H.cell (b := b14) (i := 0) rfl, fun h => ?_, fun h => ?_⟩
  · have h3 : m.k = 3 := of_decide_eq_true h
    have ea : plAns x.abs m.abs = (modA (plAdd x.abs m.tag) I (Ha.give m.bs), ⟨m.k + 1, m.cl, m.sv, m.op, m.key, m.tag, Tg.zero, false, []⟩) := by
      unfold plAns
      rw [if_neg (show ¬ m.abs.k = 1 from h1), if_pos (show m.abs.k = 3 from h3), ← hI]
      rfl
    rw [ea]
    refine ⟨fun w' => ∃ x2 : Pl, x2.b = x.b ∧ x2.abs = modA (plAdd x.abs m.tag) I (Ha.give m.bs) ∧ Hp w0 w' (anA b14 b17 b21 m ⟨m.k + 1, m.cl, m.sv, m.op, m.key, m.tag, Tg.zero, false, Slc.nil, []⟩ (star (plA x2) (star Vp F))), ⟨_, rfl, _, H.cell (b := x.b) (i := 0) rfl, a, ha, by omega, by omega, _, he 3 _ rfl, fun hf => ?_, fun hf => ?_⟩, ?_⟩
    · have hf : x1.l[I].has = false := by simpa using hf
      refine ⟨_, H.cell (b := x.b) (i := 0) rfl, a, ha, by omega, by omega, ?_⟩
      refine Hp.stoF (enc := Hd.c) (y := { x1.l[I] with has := true }) hd_len (H.own x1.s) hix (by decide) ha rfl fun w6 H => ?_
      have H := H.drew 1
      refine ⟨_, H.cell (b := x.b) (i := 0) rfl, _, H.cell (b := b14) (i := 10) rfl, ?_⟩
      refine H.newRow (e := Ty_uint8) (n := 0) (size := 1) [] rfl rfl (by decide) fun b172 w7 H => ⟨H.cell (b := x.b) (i := 0) rfl, H.cell (b := b14) (i := 10) rfl, ?_⟩
      have hB := hV (H.take Vp)
      have hBl := hB.len
      refine Hp.app (s := ⟨some (blk b172), 0, 0⟩) slT_sl_uint8 H hB (one_u8 _) (by unfold maxLen; simp only; omega) (by simp only; omega) fun s2 w8 H _ => ⟨H.cell (b := x.b) (i := 0) rfl, a, ha, by omega, by omega, ?_⟩
      have hle : I < (x1.l.set I { x1.l[I] with has := true }).length := by rw [List.length_set]; exact hix
      refine Hp.stoF (enc := Hd.c) (y := { x1.l[I] with has := true, data := s2, bs := m.bs }) hd_len (H.own x1.s) hle (by decide) ha (by rw [List.getElem_set_self]; rfl) fun w9 H => ⟨⟨x.b, x1.s, x1.l.set I { x1.l[I] with has := true, data := s2, bs := m.bs }⟩, rfl, ?_, ?_⟩
      · rw [← hab]
        refine mod_at hix ?_
        unfold Ha.give
        rw [if_neg (by show ¬ (x1.l[I].has = true); rw [hf]; decide)]
        rfl
      · rw [List.set_set] at H
        have H := hdPut hix (y := { x1.l[I] with has := true, data := s2, bs := m.bs }) rfl rfl ((H.take (all hdA x1.l)).own s2)
        have H := pl_close (x := ⟨x.b, x1.s, x1.l.set I { x1.l[I] with has := true, data := s2, bs := m.bs }⟩) (((H.take (all hdA (x1.l.set I { x1.l[I] with has := true, data := s2, bs := m.bs }))).own x1.s).blk x.b)
        exact ((((H.take Vp).take (plA ⟨x.b, x1.s, x1.l.set I { x1.l[I] with has := true, data := s2, bs := m.bs }⟩)).blk b14).blk b17).blk b21
    · have hf : x1.l[I].has = true := by simpa using hf
      refine ⟨⟨x.b, x1.s, x1.l⟩, rfl, ?_, ?_⟩
      · rw [← hab]
        have e := mod_at (f := Ha.give m.bs) hix (y := x1.l[I]) (by unfold Ha.give; rw [if_pos (show x1.l[I].abs.has = true from hf)])
        rw [List.set_getElem_self] at e
        exact e
      · have H := pl_close (x := ⟨x.b, x1.s, x1.l⟩) (((H.take (all hdA x1.l)).own x1.s).blk x.b)
        exact ((((H.take Vp).take (plA ⟨x.b, x1.s, x1.l⟩)).blk b14).blk b17).blk b21
    · rintro w6 ⟨x2, hx2, hab2, H⟩
      refine ⟨_, H.cell (b := b21) (i := 0) rfl, _, H.cell (b := b21) (i := 1) rfl, _, H.cell (b := b21) (i := 2) rfl, _, H.cell (b := b21) (i := 3) rfl, _, H.cell (b := b21) (i := 4) rfl, _, H.cell (b := b21) (i := 5) rfl, _, H.cell (b := b21) (i := 6) rfl, _, H.cell (b := b21) (i := 7) rfl, _, H.cell (b := b21) (i := 8) rfl, _, H.cell (b := b21) (i := 9) rfl, _, H.cell (b := b21) (i := 10) rfl, H.stoAll (b := b17) (by rfl) fun w8 H => ⟨_, H.cell (b := b17) (i := 0) rfl, _, H.cell (b := b17) (i := 1) rfl, _, H.cell (b := b17) (i := 2) rfl, _, H.cell (b := b17) (i := 3) rfl, _, H.cell (b := b17) (i := 4) rfl, _, H.cell (b := b17) (i := 5) rfl, _, H.cell (b := b17) (i := 6) rfl, _, H.cell (b := b17) (i := 7) rfl, _, H.cell (b := b17) (i := 8) rfl, _, H.cell (b := b17) (i := 9) rfl, _, H.cell (b := b17) (i := 10) rfl, Rt.ok ⟨x2, ⟨m.k + 1, m.cl, m.sv, m.op, m.key, m.tag, Tg.zero, false, Slc.nil, []⟩, rfl, hx2, hab2, rfl, ?_⟩⟩⟩
      exact (((H.blk b17).drop.blk b21).drop.blk b14).drop.nilRow Ty_uint8 1
  have h3 : m.k ≠ 3 := of_decide_eq_false h
  refine ⟨_, rfl, _, H.cell (b := x.b) (i := 0) rfl, a, ha, by omega, by omega, ?_⟩
  refine Hp.stoF (enc := Hd.c) (y := { x1.l[I] with fin := true }) hd_len (H.own x1.s) hix (by decide) ha rfl fun w6 H => ?_
  have H := hdSame hix (y := { x1.l[I] with fin := true }) rfl rfl (H.take (all hdA x1.l))
  have hab2 : (⟨x.b, x1.s, x1.l.set I { x1.l[I] with fin := true }⟩ : Pl).abs = modA (plAdd x.abs m.tag) I Ha.end := by
    rw [← hab]
    exact mod_at hix rfl
  have hix2 : I < (x1.l.set I { x1.l[I] with fin := true }).length := by rw [List.length_set]; exact hix
  have hx1n : x1.l.length ≤ x.l.length + 1 := by
    have e := congrArg List.length hab
    unfold plAdd Pl.abs at e
    split at e <;> simp at e <;> omega
  have hbI : ((x1.l.set I { x1.l[I] with fin := true })[I]).bs.length ≤ 1099511627776 := by
    rw [List.getElem_set_self]
    show x1.l[I].bs.length ≤ 1099511627776
    have hm : x1.l[I].abs ∈ plAdd x.abs m.tag := by rw [← hab]; exact List.mem_map.2 ⟨_, List.getElem_mem hix, rfl⟩
    rcases plAdd_mem hm with hm | hm
    · exact hlb _ hm
    · rw [show x1.l[I].bs = [] from hm]; decide
  have hl2n : (x1.l.set I { x1.l[I] with fin := true }).length ≤ 1000000000 := by rw [List.length_set]; omega
  generalize hl2 : x1.l.set I { x1.l[I] with fin := true } = l2 at H hab2 hix2 hbI hl2n
  have H : Hp w0 w6 (anA b14 b17 b21 m ⟨m.k + 1, m.cl, m.sv, m.op, m.key, m.tag, Tg.zero, false, Slc.nil, []⟩ (star (plA ⟨x.b, x1.s, l2⟩) (star Vp F))) := (((((pl_close (x := ⟨x.b, x1.s, l2⟩) (((H.take (all hdA l2)).own x1.s).blk x.b)).take Vp).take (plA ⟨x.b, x1.s, l2⟩)).blk b14).blk b17).blk b21
  have ea : plAns x.abs m.abs = (modA (plAdd x.abs m.tag) I Ha.end, if m.k = 7 then ⟨m.k + 1, m.cl, m.sv, m.op, m.key, m.tag, plTop (modA (plAdd x.abs m.tag) I Ha.end), ((modA (plAdd x.abs m.tag) I Ha.end).getD I ⟨Tg.zero, false, false, []⟩).has, ((modA (plAdd x.abs m.tag) I Ha.end).getD I ⟨Tg.zero, false, false, []⟩).bs⟩ else ⟨m.k + 1, m.cl, m.sv, m.op, m.key, m.tag, Tg.zero, false, []⟩) := by
    unfold plAns
    rw [if_neg (show ¬ m.abs.k = 1 from h1), if_neg (show ¬ m.abs.k = 3 from h3), ← hI]
    by_cases h7 : m.k = 7
    · rw [if_pos h7]; dsimp only; rw [if_pos (show m.abs.k = 7 from h7)]; rfl
    · rw [if_neg h7]; dsimp only; rw [if_neg (show ¬ m.abs.k = 7 from h7)]; rfl
  rw [ea, ← hab2]
  refine ⟨fun w' => ∃ a : Ms, a.abs = (if m.k = 7 then ⟨m.k + 1, m.cl, m.sv, m.op, m.key, m.tag, plTop (Pl.abs ⟨x.b, x1.s, l2⟩), ((Pl.abs ⟨x.b, x1.s, l2⟩).getD I ⟨Tg.zero, false, false, []⟩).has, ((Pl.abs ⟨x.b, x1.s, l2⟩).getD I ⟨Tg.zero, false, false, []⟩).bs⟩ else ⟨m.k + 1, m.cl, m.sv, m.op, m.key, m.tag, Tg.zero, false, []⟩) ∧ Hp w0 w' (star (mdA a) (anA b14 b17 b21 m a (star (plA ⟨x.b, x1.s, l2⟩) (star Vp F)))), ⟨_, H.cell (b := b14) (i := 0) rfl, fun h => ?_, fun h => ?_⟩, ?_⟩
  · have h7 : m.k = 7 := of_decide_eq_true h
    refine call (plTop_c (x := ⟨x.b, x1.s, l2⟩) (by show l2.length ≤ _; omega) (H.take (plA ⟨x.b, x1.s, l2⟩))) ?_
    rintro _ w7 ⟨rfl, f7⟩
    have H := H.fr0 f7
    refine ⟨_, _, rfl, StoN.two (H.sto2 (b := b21) (i := 7) (j := 0) (by simp) fun w8 H => H.sto2 (b := b21) (i := 7) (j := 1) (by simp) fun w9 H => ?_)⟩
    have H := pl_open (H.take (plA ⟨x.b, x1.s, l2⟩))
    obtain ⟨hsl2, a2, ha2, he2⟩ := rdHd (s := x1.s) (l := l2) H hix2
    obtain rfl : a = a2 := by rw [ha] at ha2; injection ha2
    refine ⟨_, H.cell (b := x.b) (i := 0) rfl, a, ha, by omega, by show (I : Int) < (x1.s.l : Int); omega, _, he2 3 _ rfl, H.sto (b := b21) (i := 9) (by simp) fun w10 H => ?_⟩
    refine H.newRow (e := Ty_uint8) (n := 0) (size := 1) [] rfl rfl (by decide) fun b272 w11 H => ?_
    obtain ⟨-, a3, ha3, he3⟩ := rdHd (s := x1.s) (l := l2) H hix2
    obtain rfl : a = a3 := by rw [ha] at ha3; injection ha3
    have hB := hdBs hix2 (H.take (all hdA l2))
    have hBl := hB.len
    refine ⟨_, H.cell (b := x.b) (i := 0) rfl, a, ha, by omega, by show (I : Int) < (x1.s.l : Int); omega, _, he3 4 _ rfl, ?_⟩
    refine Hp.app (s := ⟨some (blk b272), 0, 0⟩) slT_sl_uint8 H hB (one_u8 _) (by unfold maxLen; simp only; omega) (by simp only; omega) fun s2 w12 H _ => H.sto (b := b21) (i := 10) (by simp) fun w13 H => ?_
    refine ⟨⟨m.k + 1, m.cl, m.sv, m.op, m.key, m.tag, plTop (Pl.abs ⟨x.b, x1.s, l2⟩), l2[I].has, s2, l2[I].bs⟩, ?_, ?_⟩
    · rw [if_pos h7]
      unfold Pl.abs
      rw [abs_at hix2]
      rfl
    · have H := pl_close (x := ⟨x.b, x1.s, l2⟩) (((H.take (all hdA l2)).own x1.s).blk x.b)
      exact ((((((H.take Vp).take (plA ⟨x.b, x1.s, l2⟩)).blk b14).blk b17).blk b21).own s2)
  · have h7 : m.k ≠ 7 := of_decide_eq_false h
    exact ⟨⟨m.k + 1, m.cl, m.sv, m.op, m.key, m.tag, Tg.zero, false, Slc.nil, []⟩, by rw [if_neg h7]; rfl, H.nilRow Ty_uint8 1⟩
  · rintro w7 ⟨a2, hA2, H⟩
    refine ⟨_, H.cell (b := b21) (i := 0) rfl, _, H.cell (b := b21) (i := 1) rfl, _, H.cell (b := b21) (i := 2) rfl, _, H.cell (b := b21) (i := 3) rfl, _, H.cell (b := b21) (i := 4) rfl, _, H.cell (b := b21) (i := 5) rfl, _, H.cell (b := b21) (i := 6) rfl, _, H.cell (b := b21) (i := 7) rfl, _, H.cell (b := b21) (i := 8) rfl, _, H.cell (b := b21) (i := 9) rfl, _, H.cell (b := b21) (i := 10) rfl, H.stoAll (b := b17) (by rfl) fun w8 H => ⟨_, H.cell (b := b17) (i := 0) rfl, _, H.cell (b := b17) (i := 1) rfl, _, H.cell (b := b17) (i := 2) rfl, _, H.cell (b := b17) (i := 3) rfl, _, H.cell (b := b17) (i := 4) rfl, _, H.cell (b := b17) (i := 5) rfl, _, H.cell (b := b17) (i := 6) rfl, _, H.cell (b := b17) (i := 7) rfl, _, H.cell (b := b17) (i := 8) rfl, _, H.cell (b := b17) (i := 9) rfl, _, H.cell (b := b17) (i := 10) rfl, Rt.ok ⟨⟨x.b, x1.s, l2⟩, a2, rfl, rfl, rfl, hA2, ?_⟩⟩⟩
    exact (((H.blk b17).drop.blk b21).drop.blk b14).drop
end
end Go.Proofs.YtabifopphhpciaaGreatDoor

namespace Go.Vc
theorem Tg.max_zero {t : Tg} (h : t.valid = true) : Tg.zero.max t = t := by
  unfold Tg.valid Tg.proper at h
  simp only [Bool.or_eq_true, Bool.and_eq_true, decide_eq_true_eq] at h
  rcases h with rfl | h
  · rfl
  · unfold Tg.max
    rw [if_pos]
    unfold Tg.cmp
    rcases cmpI_cases t.n Tg.zero.n with ⟨h1, h2⟩ | ⟨h1, h2⟩ | ⟨h1, h2⟩
    · have : Tg.zero.n = 0 := rfl
      omega
    · rw [h2, if_pos (by decide)]; decide
    · have : Tg.zero.n = 0 := rfl
      omega
theorem Tg.max_self (t : Tg) : t.max t = t := by
  unfold Tg.max
  split <;> rfl
theorem llook_notin {L : List (Int × Rp)} {k : Int} (h : k ∉ L.map (·.1)) : llook L k = none := by
  cases hl : llook L k with
  | none => rfl
  | some v => exact absurd (List.mem_map.2 ⟨_, llook_mem hl, rfl⟩) h
theorem llook_in {L : List (Int × Rp)} {k : Int} (h : k ∈ L.map (·.1)) : ∃ v, llook L k = some v := by
  cases hl : llook L k with
  | none => exact absurd h (llook_none hl)
  | some v => exact ⟨v, rfl⟩
theorem lput_new {L : List (Int × Rp)} {k : Int} {r : Rp} (h : k ∉ L.map (·.1)) : lput L k r = L ++ [(k, r)] := by
  unfold lput
  rw [if_neg h]
end Go.Vc
namespace Go.Proofs.YtabifopphhpciaaGreatDoor
open Go Go.Vc Go.Vc.Asn Go.Gf
theorem allOf_nodup (n : Nat) : (allOf n).Nodup := by
  unfold allOf
  exact List.Pairwise.map _ (fun a b (h : a ≠ b) => by show (a : Int) ≠ (b : Int); omega) List.nodup_range
theorem allOf_mem {n : Nat} {i : Int} : i ∈ allOf n ↔ 0 ≤ i ∧ i < (n : Int) := by
  unfold allOf
  rw [List.mem_map]
  constructor
  · rintro ⟨j, hj, rfl⟩
    have := List.mem_range.1 hj
    omega
  · rintro ⟨h0, h1⟩
    exact ⟨i.toNat, List.mem_range.2 (by omega), by omega⟩
theorem allOf_len (n : Nat) : (allOf n).length = n := by unfold allOf; simp
structure Came (l : List Int) (i : Nat) (t : Tg) (L : List (Int × Rp)) : Prop where
  keys : L.map (·.1) = l.take i
  top : ∀ x ∈ L, x.2.top = t
section
variable {l : List Int} {n i : Nat} {t : Tg} {L : List (Int × Rp)} {y : Opn} {m : Ms}
theorem Came.nil (l : List Int) (t : Tg) : Came l 0 t [] := ⟨rfl, fun _ h => nomatch h⟩
theorem Came.len (h : Came l i t L) (hi : i ≤ l.length) : L.length = i := by
  have := congrArg List.length h.keys
  simpa [Nat.min_eq_left hi] using this
theorem Came.new (h : Came l i t L) (hl : l.Nodup) (hi : i < l.length) : l[i] ∉ L.map (·.1) := by
  rw [h.keys]
  intro hm
  obtain ⟨j, hj, e⟩ := List.getElem_of_mem hm
  rw [List.getElem_take] at e
  have hj2 : j < i := by rw [List.length_take] at hj; omega
  have := (List.getElem_inj (h₀ := by omega) (h₁ := hi) hl).1 e
  omega
theorem Came.put (h : Came l i t L) (hl : l.Nodup) (hi : i < l.length) {r : Rp} (hr : r.top = t) : Came l (i + 1) t (lput L l[i] r) := by
  rw [lput_new (h.new hl hi)]
  refine ⟨?_, fun x hx => ?_⟩
  · rw [List.map_append, h.keys, List.take_succ_eq_append_getElem hi]
    rfl
  · rcases List.mem_append.1 hx with hx | hx
    · exact h.top x hx
    · rw [List.mem_singleton.1 hx]
      exact hr
theorem Came.topOf (h : Came l i t L) (hv : t.valid = true) (h1 : 1 ≤ L.length) : topOf L L.length = t := by
  have hall : ∀ q, q ≤ L.length → Go.Proofs.YtabifopphhpciaaGreatDoor.topOf L q = if q = 0 then Tg.zero else t := fun q => by
    induction q with
    | zero => intro _; rfl
    | succ q ih =>
      intro hq
      have hlt : q < (keysOf L).length := by rw [keysOf_len]; omega
      rw [topOf_succ hlt, ih (by omega)]
      have hmem : (keysOf L)[q] ∈ L.map (·.1) := (keysOf_perm L).mem_iff.1 (List.getElem_mem hlt)
      obtain ⟨v, hv2⟩ := llook_in hmem
      rw [hv2, Option.getD_some, h.top _ (llook_mem hv2), if_neg (Nat.succ_ne_zero q)]
      split
      · exact Tg.max_zero hv
      · exact Tg.max_self t
  rw [hall _ (Nat.le_refl _), if_neg (by omega)]
theorem Came.missing (h : Came l i t L) (hp : l.Perm (allOf n)) : (missing L n).length = n - i := by
  have hl : l.Nodup := hp.nodup_iff.2 (allOf_nodup n)
  have hll : l.length = n := by rw [hp.length_eq, allOf_len]
  have e1 : (Go.Vc.missing L n).Perm (l.filter fun k => (llook L k).isNone) := by
    show ((allOf n).filter _).Perm _
    exact (hp.filter _).symm
  have e2 : l.filter (fun k => (llook L k).isNone) = l.drop i := by
    conv => lhs; rw [← List.take_append_drop i l]
    rw [List.filter_append]
    have h1 : (l.take i).filter (fun k => (llook L k).isNone) = [] := List.filter_eq_nil_iff.2 fun k hk => by
      rw [← h.keys] at hk
      obtain ⟨v, hv⟩ := llook_in hk
      rw [hv]; simp
    have h2 : (l.drop i).filter (fun k => (llook L k).isNone) = l.drop i := List.filter_eq_self.2 fun k hk => by
      rw [llook_notin]
      · rfl
      · rw [h.keys]
        intro hk2
        have hd := List.nodup_append.1 (by rw [List.take_append_drop]; exact hl : (l.take i ++ l.drop i).Nodup)
        exact hd.2.2 k hk2 k hk rfl
    rw [h1, h2, List.nil_append]
  rw [e1.length_eq, e2, List.length_drop, hll]
theorem repl_top (hl : llook L m.sv = none) (ht : if y.stg = .ask then m.top = t ∧ t.valid = true else t = Tg.zero) : (repl y L m).top = t := by
  unfold repl
  rw [hl, Option.getD_none]
  by_cases h : y.stg = .ask
  · rw [if_pos h] at ht ⊢
    rw [ht.1]
    exact Tg.max_zero ht.2
  · rw [if_neg h] at ht ⊢
    rw [ht]
    rfl
end
end Go.Proofs.YtabifopphhpciaaGreatDoor

namespace Go.Vc
def stgOf : Nat → Phs
  | 0 => .ask
  | 1 => .write
  | _ => .fin
structure PutSt (c : Cfg) (id : Int) (cd o : Nat) (key : ByteArray) (bs : List UInt8) (nt : Tg) (f : Nat) (x : Cl) (y : Opn) : Prop where
  cfg : x.cfg = c
  id_ : x.id = id
  cd_ : x.cd = cd
  now : x.now = some o
  stg : y.stg = stgOf f
  op : y.op = 1
  put : y.put = true
  key_ : y.key = key
  bs_ : y.bs = bs
  tag : f ≠ 0 → y.tag = nt
  used : f = 0 → (llook x.used key).getD 0 = 0
end Go.Vc
namespace Go.Proofs.YtabifopphhpciaaGreatDoor
open Go Go.Vc Go.Vc.Asn Go.Gf
def NextA (p o : Nat) (c : Cfg) (id : Int) (cd n k : Nat) (rs : Rws) (key : ByteArray) (bs : List UInt8) (nt : Tg) (f : Nat) (Cd : Asn) (r : Slc) (R : Rs) (e : Bool) (A' : Asn) : Prop :=
  (f < 2 ∧ R = Rs.no ∧ e = false ∧ ∃ x y ms, PutSt c id cd o key bs nt (f + 1) x y ∧ ms.map Ms.abs = (allOf n).map (reqOf id y (partOf rs bs k)) ∧ A' = star (msgsA r ms) (star (cliA p x) (star (opnA o y) (star (phA y.ph (c, [])) Cd)))) ∨
  (f = 2 ∧ r = Slc.nil ∧ e = true ∧ R = ⟨1, true, 0, nt, Slc.nil⟩ ∧ ∃ x : Cl, x.now = none ∧ A' = cliA p x)
section
variable {w0 w : World} {F Cd : Asn} {p o g n k q f i : Nat} {x : Cl} {y : Opn} {m : Ms} {sc : Slc} {rs : Rws} {t nt : Tg} {L : List (Int × Rp)} {c : Cfg} {id : Int} {cd : Nat} {key : ByteArray} {bs : List UInt8} {l : List Int}
theorem as4 {A B C D E G : Asn} : Ent (star A (star B (star C (star D (star E G))))) (star (star A (star B (star C (star D E)))) G) := (Ent.star (Ent.refl _) ((Ent.star (Ent.refl _) ((Ent.star (Ent.refl _) assoc').trans assoc')).trans assoc')).trans assoc'
theorem step_c (hC : ∀ {w' : World} {A' : Asn}, Hp w0 w' (star Cd A') → RdCode w' cd g sc rs n k) (hc : c.Ok) (hn : c.N = (n : Int)) (hn2 : n ≤ 255) (hb : bs.length ≤ 65536) (hS : PutSt c id cd o key bs nt f x y) (hf : f ≤ 2)
    (hid : 1 ≤ id) (hid2 : id ≤ 65535) (hv : t.valid = true) (hm : t.n ≠ 4611686018427387903) (hnt : nt = t.next 0 id)
    (hp : l.Perm (allOf n)) (hi : i < n) (hq : (c.N + c.K + 1) / 2 = (q : Int)) (hL : Came l i (if f = 0 then t else Tg.zero) L)
    (hsv : m.sv = l.getD i 0) (hk : m.k = 2 * (f : Int) + 2) (hcl : m.cl = id) (hop : m.op = 1) (hkey : m.key = key) (htg : f ≠ 0 → m.tag = nt) (htp : m.top = if f = 0 then t else Tg.zero)
    (H : Hp w0 w (star (cliA p x) (star (opnA o y) (star (phA y.ph (c, L)) (star Cd F))))) :
    Calls PP F_client_Client_Handle #[.pointer (some (blk p)), .agg m.c.toArray] w (Rt fun v w' =>
      (i + 1 < q ∧ v = .tuple #[Slc.v Slc.nil, Rs.no.v, .bool false] ∧ ∃ L', Came l (i + 1) (if f = 0 then t else Tg.zero) L' ∧ Hp w0 w' (star (cliA p x) (star (opnA o y) (star (phA y.ph (c, L')) (star Cd F))))) ∨
      (q ≤ i + 1 ∧ ∃ r R e A', v = .tuple #[Slc.v r, Rs.v R, .bool e] ∧ NextA p o c id cd n k rs key bs nt f Cd r R e A' ∧ Hp w0 w' (star A' F))) := by
  have hl : l.Nodup := hp.nodup_iff.2 (allOf_nodup n)
  have hll : l.length = n := by rw [hp.length_eq, allOf_len]
  have hsv : m.sv = l[i] := by rw [hsv, List.getD_eq_getElem?_getD, List.getElem?_eq_getElem (by omega), Option.getD_some]
  have hmem : 0 ≤ m.sv ∧ m.sv < (n : Int) := by rw [hsv]; exact allOf_mem.1 (hp.mem_iff.1 (List.getElem_mem (by omega)))
  obtain ⟨s1, s2, s3, s4, s5, s6, s7, s8, s9, s10, s11⟩ := hS
  have hf3 : f = 0 ∨ f = 1 ∨ f = 2 := by omega
  have hcnt : countsB x y m = true := by
    unfold countsB badB goodB
    rw [s1, s2, s5, s6, s8, hcl, hop, hkey, hn, hk]
    rcases hf3 with rfl | rfl | rfl
    · simp [stgOf, htp, hv]; omega
    · simp [stgOf, htg, s10]; omega
    · simp [stgOf, htg, s10]; omega
  have hnr : y.stg ≠ .read := by rw [s5]; rcases hf3 with rfl | rfl | rfl <;> decide
  have hrt : (repl y L m).top = if f = 0 then t else Tg.zero := by
    refine repl_top (llook_notin (by rw [hsv]; exact hL.new hl (by omega))) ?_
    rw [s5, htp]
    rcases hf3 with rfl | rfl | rfl
    · rw [if_pos rfl]; exact ⟨rfl, by simpa using hv⟩
    · rw [if_neg (by decide)]; rfl
    · rw [if_neg (by decide)]; rfl
  have hL' := hL.put hl (by omega) hrt
  rw [← hsv] at hL'
  have hlen := hL'.len (by omega)
  generalize hLL : lput L m.sv (repl y L m) = L' at hL' hlen
  subst s1
  refine Rt.mono (handle_c (Pm := NextA p o x.cfg id cd n k rs key bs nt f Cd) hc s4 hcnt hnr (fun hmet w F H => ?_) H) ?_
  · rw [hLL] at H hmet
    rcases hf3 with rfl | rfl | rfl
    · have ht := hL'.topOf (by simpa using hv) (by omega)
      rw [if_pos rfl] at ht
      have hu : usedOf x y.key = 0 := by unfold usedOf; rw [s8]; exact s11 rfl
      have hnx : t.next (usedOf x y.key) x.id = nt := by rw [hu, s2, hnt]
      have hle : nt.n ≤ 4611686018427387903 := by rw [hnt]; exact Tg.next_le hv hm
      refine Rt.mono (metAsk_c (n := n) (t := t) (fun H => by rw [s3]; exact hC H) hc hn hn2 (by rw [s9]; exact hb) s4 s5 (by omega) ht s7 hv (by rw [hu]; decide) (by rw [hu]; decide) (by rw [s2]; exact hid) (by rw [s2]; exact hid2) (by rw [hnx]; exact hle) H) ?_
      rintro v w7 ⟨ph', r', ms', rfl, hms', H⟩
      rw [hnx] at hms' H
      have H := (H.take (phA y.ph (x.cfg, L'))).drop
      exact ⟨r', Rs.no, false, _, rfl, .inl ⟨by decide, rfl, rfl, { x with used := lput x.used y.key nt.n }, { y with stg := .write, tag := nt, ph := ph' }, ms', ⟨rfl, s2, s3, s4, rfl, s6, s7, s8, s9, fun _ => rfl, fun h => absurd h (by decide)⟩, by rw [← s2, ← s9]; exact hms', rfl⟩, H.ent as4⟩
    · refine Rt.mono (metWrite_c (n := n) (fun H => by rw [s3]; exact hC H) hc hn hn2 (by rw [s9]; exact hb) s4 s5 (((H.take Cd).take (opnA o y)).take (cliA p x))) ?_
      rintro v w7 ⟨ph', r', ms', rfl, hms', H⟩
      have H := (H.take (phA y.ph (x.cfg, L'))).drop
      exact ⟨r', Rs.no, false, _, rfl, .inl ⟨by decide, rfl, rfl, x, { y with stg := .fin, ph := ph' }, ms', ⟨rfl, s2, s3, s4, rfl, s6, s7, s8, s9, fun _ => s10 (by decide), fun h => absurd h (by decide)⟩, by rw [← s2, ← s9]; exact hms', rfl⟩, H.ent as4⟩
    · refine Rt.mono (metFin_c s4 s5 H) ?_
      rintro v w7 ⟨rfl, H⟩
      rw [s6, s7, s10 (by decide)]
      exact ⟨Slc.nil, ⟨1, true, 0, nt, Slc.nil⟩, true, _, rfl, .inr ⟨rfl, rfl, rfl, rfl, { x with now := none }, rfl, rfl⟩, H.swap.drop.swap.drop.swap.drop⟩
  · rintro v w7 (⟨h, rfl, H⟩ | ⟨h, r', R, e, A', rfl, hP, H⟩)
    · rw [hLL] at h H
      exact .inl ⟨by omega, rfl, L', hL', H⟩
    · rw [hLL] at h
      exact .inr ⟨by omega, r', R, e, A', rfl, hP, H⟩
end
end Go.Proofs.YtabifopphhpciaaGreatDoor

namespace Go.Proofs.YtabifopphhpciaaGreatDoor
open Go Go.Vc Go.Vc.Asn Go.Gf
section
variable {w0 w : World} {F : Asn} {p o n k q f i tp b10 b13 b124 cd g : Nat} {x : Cl} {y : Opn} {r sO sc I : Slc} {rs os : Rws} {ms : List Ms} {is : List Int} {c : Cfg} {id : Int} {key : ByteArray} {bs : List UInt8} {t nt : Tg} {l : List Int} {a b : Int} {V P s : Slc}
theorem allOf_at {n i : Nat} (h : i < n) : (allOf n)[i]? = some (i : Int) := by
  unfold allOf
  rw [List.getElem?_map, List.getElem?_range h]
  rfl
theorem msBs (H : Hp w0 w (star (msgsA s ms) F)) (hi : i < ms.length) : Byt w ms[i].data ms[i].bs := by
  have H := H.assoc.drop.ent (Ent.star (all_at mdA ms i hi) (Ent.refl _))
  have H : Hp w0 w (star (own Ty_uint8 1 ms[i].data (ms[i].bs.map u8v)) _) := H.assoc
  exact H.cel (s := ms[i].data)
theorem as4r {A B C D E G : Asn} : Ent (star (star A (star B (star C (star D E)))) G) (star A (star B (star C (star D (star E G))))) := assoc.trans (Ent.star (Ent.refl _) (assoc.trans (Ent.star (Ent.refl _) (assoc.trans (Ent.star (Ent.refl _) assoc)))))
end
end Go.Proofs.YtabifopphhpciaaGreatDoor

namespace Go.Vc
structure OpSt (b : Bool) (c : Cfg) (id : Int) (cd o : Nat) (key : ByteArray) (bs : List UInt8) (nt : Tg) (f : Nat) (x : Cl) (y : Opn) : Prop where
  cfg : x.cfg = c
  id_ : x.id = id
  cd_ : x.cd = cd
  now : x.now = some o
  stg : y.stg = stgOf f
  op : y.op = 1
  put : y.put = b
  key_ : y.key = key
  bs_ : y.bs = bs
  tag : f ≠ 0 → y.tag = nt
  used : f = 0 → (llook x.used key).getD 0 = 0
  get : b = false → f = 0
theorem OpSt.toPut {c : Cfg} {id : Int} {cd o : Nat} {key : ByteArray} {bs : List UInt8} {nt : Tg} {f : Nat} {x : Cl} {y : Opn} (h : OpSt true c id cd o key bs nt f x y) : PutSt c id cd o key bs nt f x y :=
  ⟨h.cfg, h.id_, h.cd_, h.now, h.stg, h.op, h.put, h.key_, h.bs_, h.tag, h.used⟩
theorem PutSt.toOp {c : Cfg} {id : Int} {cd o : Nat} {key : ByteArray} {bs : List UInt8} {nt : Tg} {f : Nat} {x : Cl} {y : Opn} (h : PutSt c id cd o key bs nt f x y) : OpSt true c id cd o key bs nt f x y :=
  ⟨h.cfg, h.id_, h.cd_, h.now, h.stg, h.op, h.put, h.key_, h.bs_, h.tag, h.used, fun h => nomatch h⟩
end Go.Vc
namespace Go.Proofs.YtabifopphhpciaaGreatDoor
open Go Go.Vc Go.Vc.Asn Go.Gf
section
variable {w0 w : World} {F Cd : Asn} {p o : Nat} {x : Cl} {y : Opn} {r r' : Slc} {ms ms' : List Ms} {m m' : Ms}
abbrev plV (x : Pl) : Value := .pointer (some (blk x.b))
theorem townF_c {a b : Int} : Calls PP F_sherdlaw18_town #[.int .i64 a, .int .i64 b] w (Rt fun v w' => ∃ (tp : Nat) (N K : Int) (sv : Slc) (xs : List Pl), v = .pointer (some (blk tp)) ∧ 1 ≤ N ∧ N ≤ 7 ∧ 1 ≤ K ∧ K ≤ N ∧ (xs.length : Int) = N ∧ (∀ x ∈ xs, x.abs = []) ∧
    Hp w w' (star (bk tp Ty_sherdlaw18_Town #[.int .i64 N, .int .i64 K, .int .i64 0, Slc.v sv]) (star (own Ty_p_sherdlaw18_Plain 1 sv (xs.map plV)) (star (all plA xs) emp)))) := by
  refine sim_sherdlaw18_town _ _ _ _ ?_
  unfold vc_sherdlaw18_town
  refine call (mod_c (by decide) (by decide)) ?_
  rintro _ w9 ⟨rfl, hw⟩
  rw [hw]
  clear hw
  have hb := modI_bounds (k := a) (n := 7) (by decide)
  refine ⟨_, rfl, ?_⟩
  rw [wr64 (n := modI a 7 + 1) (by omega) (by omega)]
  generalize hN : modI a 7 + 1 = N
  refine nw fun tp w1 H _ => call (mod_c (by omega) (by omega)) ?_
  rintro _ _ ⟨rfl, rfl⟩
  have hb2 := modI_bounds (k := b) (n := N) (by omega)
  refine ⟨_, rfl, H.sto2 (b := tp) (i := 0) (j := 1) (by simp) fun w2 H => ?_⟩
  rw [wr64 (n := modI b N + 1) (by omega) (by omega)] at H
  generalize hK : modI b N + 1 = K at H
  refine ⟨fun i w' => ∃ (q : Nat) (sv : Slc) (xs : List Pl), i = (q : Int) ∧ (q : Int) ≤ N ∧ xs.length = q ∧ (∀ x ∈ xs, x.abs = []) ∧ Hp w w' (star (bk tp Ty_sherdlaw18_Town #[.int .i64 N, .int .i64 K, .int .i64 0, Slc.v sv]) (star (own Ty_p_sherdlaw18_Plain 1 sv (xs.map plV)) (star (all plA xs) emp))), fun i _ => (N - i).toNat, ⟨0, Slc.nil, [], rfl, by omega, rfl, by simp, ?_⟩, ?_⟩
  · exact (((H.blk tp).ent (Ent.star (Ent.refl _) emp_l)).nilRow _ 1).swap
  clear H
  rintro _ w3 ⟨q, sv, xs, rfl, hq, hxl, hxe, H⟩
  refine ⟨_, H.cell2 (b := tp) (i := 0) (j := 0) rfl, fun h => ?_, fun h => ?_⟩
  · have h := of_decide_eq_true h
    have e1 : wr .i64 ((q : Int) + 1) = ((q + 1 : Nat) : Int) := by rw [wr64 (by omega) (by omega)]; omega
    have hsl : sv.l = xs.length := by
      have := (H.cel (s := sv)).len
      rw [List.length_map] at this
      omega
    refine ⟨_, H.cell (b := tp) (i := 3) rfl, H.new fun b30 w4 H => H.newRow (e := Ty_p_sherdlaw18_Plain) (n := 1) (size := 1) [.pointer (some (blk b30))] rfl rfl (by decide) fun b33 w5 H => ?_⟩
    refine H.app (s := sv) slT_sl_p_sherdlaw18_Plain (H.cel (s := ⟨some (blk b33), 1, 1⟩)) (fun u hu => by rw [List.mem_singleton.1 hu]; rfl) (by unfold maxLen; simp only; omega) (by simp only; omega) fun s' w6 H _ => ?_
    refine H.sto (b := tp) (i := 3) (by simp) fun w7 H => ⟨⟨q + 1, s', xs ++ [⟨b30, Slc.nil, []⟩], e1, by omega, by simp [hxl], fun u hu => ?_, ?_⟩, by rw [e1]; dsimp only; omega⟩
    · rcases List.mem_append.1 hu with hu | hu
      · exact hxe u hu
      · rw [List.mem_singleton.1 hu]; rfl
    · have H := (((H.own ⟨some (blk b33), 1, 1⟩).drop.blk b30).nilRow Ty_sherdlaw18_Held 5).swap
      have H := pl_close (x := ⟨b30, Slc.nil, []⟩) (H.ent (Ent.star (Ent.refl _) (Ent.star (Ent.refl _) emp_l)))
      have H := ((H.take (all plA xs)).take (plA ⟨b30, Slc.nil, []⟩)).assoc'.ent (Ent.star (all_snoc1 plA ⟨b30, Slc.nil, []⟩ xs) (Ent.refl _))
      rw [List.map_append]
      exact (H.own s').blk tp
  · have h := of_decide_eq_false h
    exact Rt.ok ⟨tp, N, K, sv, xs, rfl, by omega, by omega, by omega, by omega, by omega, hxe, H⟩
theorem abs_inj {m m' : Ms} (h : m.abs = m'.abs) : m.k = m'.k ∧ m.cl = m'.cl ∧ m.sv = m'.sv ∧ m.op = m'.op ∧ m.key = m'.key ∧ m.tag = m'.tag ∧ m.top = m'.top ∧ m.has = m'.has ∧ m.bs = m'.bs := by
  unfold Ms.abs at h
  injection h with h1 h2 h3 h4 h5 h6 h7 h8 h9
  exact ⟨h1, h2, h3, h4, h5, h6, h7, h8, h9⟩
theorem sameM_c (h : m.abs = m'.abs) (hB : Byt w m.data m.bs) (hB' : Byt w m'.data m'.bs) : Calls PP F_sherdlaw18_sameMessage #[.agg m.c.toArray, .agg m'.c.toArray] w (Rt fun v w' => v = .bool true ∧ Fr [] w w') := by
  obtain ⟨e1, e2, e3, e4, e5, e6, e7, e8, e9⟩ := abs_inj h
  refine sim_sherdlaw18_sameMessage _ _ _ _ _ _ _ _ _ _ _ _ _ _ _ _ _ _ _ _ _ _ _ _ ?_
  unfold vc_sherdlaw18_sameMessage
  refine nw fun b1 w1 J f1 => J.new fun b2 w2 J => ⟨true, fun _ => ?_, fun h => ?_, Rt.ok ⟨rfl, J.fr⟩⟩
  · refine ToStr.rule slT_sl_uint8.ut und_string und_uint8 (hB.fr0 J.fr) (ToStr.rule slT_sl_uint8.ut und_string und_uint8 (hB'.fr0 J.fr) ?_)
    rw [e9]; simp
  · exfalso
    rw [e1, e2, e3, e4, e5, e6, e7, e8] at h
    simp at h
theorem sameMs_c {F' : Asn} (h0 : ms.map Ms.abs = ms'.map Ms.abs) (hl : ms.length ≤ 1099511627776) (H : Hp w0 w (star (msgsA r ms) F)) (H' : Hp w0 w (star (msgsA r' ms') F')) : Calls PP F_sherdlaw18_sameMessages #[r.v, r'.v] w (Rt fun v w' => v = .bool true ∧ Fr [] w w') := by
  refine sim_sherdlaw18_sameMessages _ _ _ _ ?_
  unfold vc_sherdlaw18_sameMessages
  have hlen : ms'.length = ms.length := by have := congrArg List.length h0; simpa using this.symm
  have hr : r.l = ms.length := Cel.flen (enc := Ms.c) ms_len (H.assoc.cel (s := r)) (by decide)
  have hr' : r'.l = ms'.length := Cel.flen (enc := Ms.c) ms_len (H'.assoc.cel (s := r')) (by decide)
  refine ⟨fun h => ?_, fun _ => ⟨fun z w' => ∃ i : Nat, z = (i : Int) ∧ i ≤ ms.length ∧ Fr [] w w', fun z _ => ms.length - z.toNat, ⟨0, rfl, Nat.zero_le _, Fr.refl _ _⟩, ?_⟩⟩
  · exact absurd (by rw [hr, hr', hlen]) (of_decide_eq_true h)
  rintro _ w1 ⟨i, rfl, hi, f1⟩
  refine ⟨fun h => ?_, fun h => Rt.ok ⟨rfl, f1⟩⟩
  have hlt : i < ms.length := by have := of_decide_eq_true h; omega
  have e1 : wr .i64 ((i : Int) + 1) = ((i + 1 : Nat) : Int) := by rw [wr64 (by omega) (by omega)]; omega
  have H := (H.fr0 f1).drew 1
  have H' := (H'.fr0 f1).drew 1
  obtain ⟨-, a, ha, hc⟩ := rdMs H hlt
  obtain ⟨-, a', ha', hc'⟩ := rdMs H' (i := i) (by omega)
  have hab : ms[i].abs = (ms'[i]'(by omega)).abs := by
    have e := congrArg (fun l => l[i]?) h0
    simp only [List.getElem?_map] at e
    rw [List.getElem?_eq_getElem hlt, List.getElem?_eq_getElem (by omega)] at e
    injection e
  refine ⟨a, ha, by omega, by omega, _, hc 0 _ rfl, _, hc 1 _ rfl, _, hc 2 _ rfl, _, hc 3 _ rfl, _, hc 4 _ rfl, _, hc 5 _ rfl, _, hc 6 _ rfl, _, hc 7 _ rfl, _, hc 8 _ rfl, _, hc 9 _ rfl, _, hc 10 _ rfl, a', ha', by omega, by omega, _, hc' 0 _ rfl, _, hc' 1 _ rfl, _, hc' 2 _ rfl, _, hc' 3 _ rfl, _, hc' 4 _ rfl, _, hc' 5 _ rfl, _, hc' 6 _ rfl, _, hc' 7 _ rfl, _, hc' 8 _ rfl, _, hc' 9 _ rfl, _, hc' 10 _ rfl, call (sameM_c hab (msBs H hlt) (msBs H' (by omega))) ?_⟩
  rintro _ w2 ⟨rfl, f2⟩
  refine ⟨_, rfl, fun h => (nomatch h), fun _ => ?_⟩
  rw [e1]
  exact ⟨⟨i + 1, rfl, hlt, (f1.drewN 1).then_ f2⟩, by show ms.length - ((i + 1 : Nat) : Int).toNat < ms.length - ((i : Nat) : Int).toNat; omega⟩
theorem sameR_c {R : Rs} (hv : R.val = Slc.nil) : Calls PP F_sherdlaw18_sameResult #[R.v, R.v] w (Rt fun v w' => v = .bool true ∧ Fr [] w w') := by
  refine sim_sherdlaw18_sameResult _ _ _ _ _ _ _ _ _ _ _ _ _ _ ?_
  unfold vc_sherdlaw18_sameResult
  refine nw fun b1 w1 J f1 => J.new fun b2 w2 J => ⟨true, fun _ => ?_, fun h => ?_, Rt.ok ⟨rfl, J.fr⟩⟩
  · rw [hv]
    have J := J.nilRow Ty_uint8 1
    have hB : Byt w2 Slc.nil [] := J.cel (s := Slc.nil)
    refine ToStr.rule slT_sl_uint8.ut und_string und_uint8 hB (ToStr.rule slT_sl_uint8.ut und_string und_uint8 hB ?_)
    simp
  · exfalso
    simp at h
theorem handleNo_c (hnow : x.now = some o) (hcount : countsB x y m = false) (H : Hp w0 w (star (cliA p x) (star (opnA o y) F))) :
    Calls PP F_client_Client_Handle #[.pointer (some (blk p)), .agg m.c.toArray] w (Rt fun v w' => v = .tuple #[Slc.v Slc.nil, Rs.no.v, .bool false] ∧ Fr [] w w') := by
  refine sim_client_Client_Handle _ _ _ _ _ _ _ _ _ _ _ _ _ _ ?_
  unfold vc_client_Client_Handle
  refine nw fun b14 w1 J f1 => J.new fun b17 w2 J => ⟨fun b w' => b = true ∧ Hp w w' (star (bk b17 Ty_api_Result #[.int .i64 0, .bool false, .int .i64 0, .int .i64 0, .int .i64 0, Slc.nil.v]) emp), ⟨fun _ => call (counts_c (m := m) hnow (H.fr0 J.fr)) ?_, fun h => by simp at h⟩, ?_⟩
  · rintro _ w3 ⟨rfl, f3⟩
    exact ⟨_, rfl, by rw [hcount]; rfl, ((J.fr0 f3).blk b14).drop⟩
  clear J
  rintro _ w3 ⟨rfl, J⟩
  exact ⟨fun _ => J.stoAll (b := b17) (by rfl) fun w8 J => ⟨_, J.cell (b := b17) (i := 0) rfl, _, J.cell (b := b17) (i := 1) rfl, _, J.cell (b := b17) (i := 2) rfl, _, J.cell (b := b17) (i := 3) rfl, _, J.cell (b := b17) (i := 4) rfl, _, J.cell (b := b17) (i := 5) rfl, Rt.ok ⟨rfl, J.fr⟩⟩, fun h => (nomatch h)⟩
theorem nowIdle_c (hnow : x.now = none) (H : Hp w0 w (star (cliA p x) F)) : Calls PP F_client_Client_Now #[.pointer (some (blk p))] w (Rt fun v w' => v = .tuple #[.int .i64 0, .bool false, .string (ByteArray.mk #[]), .agg #[.int .i64 0, .int .i64 0], .int .i64 0, .int .i64 71] ∧ Fr [] w w') := by
  obtain ⟨gm, H⟩ := cl_open H
  refine sim_client_Client_Now _ _ _ ?_
  unfold vc_client_Client_Now
  refine nw fun b3 w4 J f1 => ⟨fun h => by simp at h, fun _ => ⟨_, rfl, _, (H.fr0 f1).cell (b := p) (i := 7) rfl, fun _ => J.stoAll (b := b3) (by rfl) fun w5 J => ⟨_, J.cell (b := b3) (i := 0) rfl, _, J.cell (b := b3) (i := 1) rfl, Rt.ok ⟨rfl, J.fr⟩⟩, fun h => by simp [hnow] at h⟩⟩
theorem get_c {g n k : Nat} {sc : Slc} {rs : Rws} {key : ByteArray} (hC : ∀ {w' : World} {A' : Asn}, Hp w0 w' (star Cd A') → RdCode w' x.cd g sc rs n k) (hc : x.cfg.Ok) (hn : x.cfg.N = (n : Int)) (hn2 : n ≤ 255) (hnow : x.now = none) (h0 : 0 ≤ x.ops) (h1 : x.ops < 4611686018427387903) (hk : 1 ≤ key.size) (hk2 : key.size ≤ 64)
    (H : Hp w0 w (star (cliA p x) (star Cd F))) :
    Calls PP F_client_Client_Get #[.pointer (some (blk p)), .string key] w (Rt fun z w' => ∃ o val ph r ms, z = .tuple #[.int .i64 (x.ops + 1), Slc.v r, .int .i64 0] ∧ ms.map Ms.abs = (allOf n).map (reqOf x.id ⟨x.ops + 1, false, key, val, [], .ask, Tg.zero, ph⟩ (partOf rs [] k)) ∧
      Hp w0 w' (star (msgsA r ms) (star (cliA p { x with ops := x.ops + 1, now := some o }) (star (opnA o ⟨x.ops + 1, false, key, val, [], .ask, Tg.zero, ph⟩) (star (phA ph (x.cfg, [])) (star Cd F)))))) := by
  refine sim_client_Client_Get _ _ _ _ ?_
  unfold vc_client_Client_Get
  refine ⟨fun h => by simp at h, fun _ => call (begin_c (v := Slc.nil) (bs := []) (b := false) (Vp := own Ty_uint8 1 Slc.nil []) hC (fun H => H.cel (s := Slc.nil)) hc hn hn2 hnow h0 h1 hk hk2 (by decide) (H.nilRow Ty_uint8 1).swap) ?_⟩
  rintro _ w1 ⟨o, val, ph, r, ms, rfl, hms, H⟩
  exact ⟨_, _, _, rfl, Rt.ok ⟨o, val, ph, r, ms, rfl, hms, (H.take (own Ty_uint8 1 Slc.nil [])).drop⟩⟩
def Rs.absent (op : Int) : Rs := ⟨op, false, 76, Tg.zero, Slc.nil⟩
theorem chosenNo_c (hnow : x.now = some o) (hput : y.put = false) (H : Hp w0 w (star (cliA p x) (star (opnA o y) F))) :
    Calls PP F_client_Client_chosen #[.pointer (some (blk p)), Tg.zero.v] w (Rt fun v w' => v = .tuple #[Slc.v Slc.nil, (Rs.absent y.op).v, .bool true] ∧ Hp w0 w' (star (cliA p { x with now := none }) (star (opnA o y) F))) := by
  have hp1 : w.cell? ((blk p).add 7) = some (.pointer (some (blk o))) := rd_now (x := x) H hnow
  refine sim_client_Client_chosen _ _ _ _ _ ?_
  unfold vc_client_Client_chosen
  refine H.new fun b5 w1 H => H.new fun b8 w2 H => ⟨_, rfl, _, rd_now (x := x) H hnow, _, rfl, _, (op_open (H.take (opnA o y))).cell (b := o) (i := 1) rfl, fun _ => call (zero_c (t := Tg.zero)) ?_, fun h => by rw [hput] at h; exact nomatch h⟩
  rintro _ w3 ⟨rfl, f3⟩
  have H := H.fr0 f3
  refine ⟨_, rfl, fun _ => call (end_c (t := Tg.zero) (v := Slc.nil) (e := 76) hnow ((H.take (opnA o y)).take (cliA p x))) ?_, fun h => absurd h (by decide)⟩
  rintro _ w4 ⟨rfl, H⟩
  refine ⟨_, _, _, _, _, _, _, rfl, H.new fun b35 w5 H => H.stoAll (b := b35) (by rfl) fun w6 H => ?_⟩
  have H := H.drew 1
  refine ⟨_, H.cell (b := b35) (i := 0) rfl, _, H.cell (b := b35) (i := 1) rfl, _, H.cell (b := b35) (i := 2) rfl, _, H.cell (b := b35) (i := 3) rfl, _, H.cell (b := b35) (i := 4) rfl, _, H.cell (b := b35) (i := 5) rfl, H.stoAll (b := b8) (by rfl) fun w7 H => ⟨_, H.cell (b := b8) (i := 0) rfl, _, H.cell (b := b8) (i := 1) rfl, _, H.cell (b := b8) (i := 2) rfl, _, H.cell (b := b8) (i := 3) rfl, _, H.cell (b := b8) (i := 4) rfl, _, H.cell (b := b8) (i := 5) rfl, Rt.ok ⟨?_, ?_⟩⟩⟩
  · rw [hput]; rfl
  · exact ((((H.blk b35).drop.blk b8).drop.blk b5).drop.take (opnA o y)).take (cliA p { x with now := none })
theorem metNo_c {c : Cfg} {L : List (Int × Rp)} (hnow : x.now = some o) (hs : y.stg = .ask) (hL : L.length ≤ 255) (ht : topOf L L.length = Tg.zero) (hput : y.put = false)
    (H : Hp w0 w (star (cliA p x) (star (opnA o y) (star (phA y.ph (c, L)) F)))) :
    Calls PP F_client_Client_met #[.pointer (some (blk p))] w (Rt fun v w' => v = .tuple #[Slc.v Slc.nil, (Rs.absent y.op).v, .bool true] ∧ Hp w0 w' (star (cliA p { x with now := none }) (star (opnA o y) (star (phA y.ph (c, L)) F)))) := by
  refine sim_client_Client_met _ _ _ ?_
  unfold vc_client_Client_met
  refine H.new fun b3 w1 H => ⟨_, rfl, _, rd_now (x := x) H hnow, H.new fun b11 w2 H => ⟨fun _ _ => False, ⟨_, rfl, _, rd_stg (y := y) H, tasA ⟨_, rfl, fun _ => ?_, fun h => ?_⟩⟩, fun _ _ h => h.elim⟩⟩
  · refine call (top_c hL ((H.take (phA y.ph (c, L))).take (opnA o y))) ?_
    rintro _ w3 ⟨rfl, H⟩
    rw [ht]
    refine ⟨_, _, rfl, call (chosenNo_c hnow hput ((H.take (opnA o y)).take (cliA p x))) ?_⟩
    rintro _ w4 ⟨rfl, H⟩
    refine ⟨_, _, _, _, _, _, _, _, rfl, H.stoAll (b := b3) (by rfl) fun w5 H => ⟨_, H.cell (b := b3) (i := 0) rfl, _, H.cell (b := b3) (i := 1) rfl, _, H.cell (b := b3) (i := 2) rfl, _, H.cell (b := b3) (i := 3) rfl, _, H.cell (b := b3) (i := 4) rfl, _, H.cell (b := b3) (i := 5) rfl, Rt.ok ⟨rfl, ?_⟩⟩⟩
    have H := ((H.blk b3).drop.blk b11).drop
    exact ((H.take (phA y.ph (c, L))).take (opnA o y)).take (cliA p { x with now := none })
  · rw [hs] at h
    exact absurd h (by decide)
def Rend (b : Bool) (nt : Tg) : Rs := if b then ⟨1, true, 0, nt, Slc.nil⟩ else Rs.absent 1
end
theorem missing_keys {L L' : List (Int × Rp)} {n : Nat} (h : L.map (·.1) = L'.map (·.1)) : missing L n = missing L' n := by
  unfold Go.Vc.missing
  congr 1
  funext i
  by_cases hi : i ∈ L.map (·.1)
  · obtain ⟨v, e⟩ := llook_in hi
    obtain ⟨v', e'⟩ := llook_in (h ▸ hi)
    rw [e, e']; rfl
  · rw [llook_notin hi, llook_notin (h ▸ hi)]
section
variable {w0 w : World} {F Cd : Asn} {p o g n k q f i : Nat} {x : Cl} {y : Opn} {m : Ms} {sc : Slc} {rs : Rws} {t nt : Tg} {L : List (Int × Rp)} {c : Cfg} {id : Int} {cd : Nat} {key : ByteArray} {bs : List UInt8} {l : List Int} {b : Bool}
theorem Came.again (h : Came l i t L) {j : Int} (hj : j ∈ L.map (·.1)) {r : Rp} (hr : r.top = t) : Came l i t (lput L j r) := by
  unfold lput
  rw [if_pos hj]
  refine ⟨?_, fun x hx => ?_⟩
  · rw [← h.keys, List.map_map]
    refine List.map_congr_left fun x _ => ?_
    show (if x.1 = j then (x.1, r) else x).1 = x.1
    split <;> rfl
  · obtain ⟨z, hz, rfl⟩ := List.mem_map.1 hx
    split
    · exact hr
    · exact h.top _ hz
theorem repl_zero (h : Came l i Tg.zero L) (hm : m.top = Tg.zero) : (repl y L m).top = Tg.zero := by
  have h0 : ((llook L m.sv).getD Rp.no).top = Tg.zero := by
    cases hl : llook L m.sv with
    | none => rfl
    | some v => exact h.top _ (llook_mem hl)
  unfold repl
  split
  · show ((llook L m.sv).getD Rp.no).top.max m.top = Tg.zero
    rw [h0, hm]
    decide
  · exact h0
theorem counts_op (h : m.op ≠ y.op) : countsB x y m = false := by
  unfold countsB badB
  simp [h]
theorem counts_kind (hS : OpSt b c id cd o key bs nt f x y) (hf : f ≤ 2) (h : m.k ≠ 2 * (f : Int) + 2) : countsB x y m = false := by
  unfold countsB goodB
  rw [hS.stg]
  have hf3 : f = 0 ∨ f = 1 ∨ f = 2 := by omega
  rcases hf3 with rfl | rfl | rfl
  · have h : m.k ≠ 2 := by omega
    simp [stgOf, h]
  · have h : m.k ≠ 4 := by omega
    simp [stgOf, h]
  · have h : m.k ≠ 6 := by omega
    simp [stgOf, h]
theorem counts_ok (hS : OpSt b c id cd o key bs nt f x y) (hf : f ≤ 2) (hmem : 0 ≤ m.sv ∧ m.sv < c.N) (hk : m.k = 2 * (f : Int) + 2) (hcl : m.cl = id) (hop : m.op = 1) (hkey : m.key = key) (htg : f ≠ 0 → m.tag = nt) (htp : m.top = Tg.zero) : countsB x y m = true := by
  obtain ⟨s1, s2, s3, s4, s5, s6, s7, s8, s9, s10, s11, s12⟩ := hS
  have hf3 : f = 0 ∨ f = 1 ∨ f = 2 := by omega
  have hv : Tg.zero.valid = true := by decide
  unfold countsB badB goodB
  rw [s1, s2, s5, s6, s8, hcl, hop, hkey, hk]
  rcases hf3 with rfl | rfl | rfl
  · simp [stgOf, htp, hv]; omega
  · simp [stgOf, htg, s10]; omega
  · simp [stgOf, htg, s10]; omega
theorem stepG_c (hC : ∀ {w' : World} {A' : Asn}, Hp w0 w' (star Cd A') → RdCode w' cd g sc rs n k) (hc : c.Ok) (hn : c.N = (n : Int)) (hn2 : n ≤ 255) (hb : bs.length ≤ 65536) (hS : OpSt b c id cd o key bs nt f x y) (hf : f ≤ 2)
    (hid : 1 ≤ id) (hid2 : id ≤ 65535) (hnt : nt = Tg.zero.next 0 id) (hp : l.Perm (allOf n)) (hi : i < n) (hq : (c.N + c.K + 1) / 2 = (q : Int)) (hL : Came l i Tg.zero L)
    (hsv : m.sv = l.getD i 0) (hk : m.k = 2 * (f : Int) + 2) (hcl : m.cl = id) (hop : m.op = 1) (hkey : m.key = key) (htg : f ≠ 0 → m.tag = nt) (htp : m.top = Tg.zero)
    (H : Hp w0 w (star (cliA p x) (star (opnA o y) (star (phA y.ph (c, L)) (star Cd F))))) :
    Calls PP F_client_Client_Handle #[.pointer (some (blk p)), .agg m.c.toArray] w (Rt fun v w' =>
      (i + 1 < q ∧ v = .tuple #[Slc.v Slc.nil, Rs.no.v, .bool false] ∧ ∃ L', Came l (i + 1) Tg.zero L' ∧ Hp w0 w' (star (cliA p x) (star (opnA o y) (star (phA y.ph (c, L')) (star Cd F))))) ∨
      (q ≤ i + 1 ∧ b = true ∧ f < 2 ∧ ∃ r x' y' ms, v = .tuple #[Slc.v r, Rs.no.v, .bool false] ∧ OpSt b c id cd o key bs nt (f + 1) x' y' ∧ ms.map Ms.abs = (allOf n).map (reqOf id y' (partOf rs bs k)) ∧ Hp w0 w' (star (msgsA r ms) (star (cliA p x') (star (opnA o y') (star (phA y'.ph (c, [])) (star Cd F)))))) ∨
      (q ≤ i + 1 ∧ (b = true → f = 2) ∧ ∃ x' : Cl, x'.now = none ∧ v = .tuple #[Slc.v Slc.nil, (Rend b nt).v, .bool true] ∧ Hp w0 w' (star (cliA p x') F))) := by
  cases b with
  | true =>
    refine Rt.mono (step_c (t := Tg.zero) hC hc hn hn2 hb hS.toPut hf hid hid2 (by decide) (by decide) hnt hp hi hq (by rw [ite_self]; exact hL) hsv hk hcl hop hkey htg (by rw [ite_self]; exact htp) H) ?_
    rintro v w' (⟨h, rfl, L', hL', H⟩ | ⟨h, r, R, e, A', rfl, hN, H⟩)
    · rw [ite_self] at hL'
      exact .inl ⟨h, rfl, L', hL', H⟩
    · rcases hN with ⟨hf2, rfl, rfl, x', y', ms', hS', hms', rfl⟩ | ⟨hf2, rfl, rfl, rfl, xE, hx, rfl⟩
      · exact .inr (.inl ⟨h, rfl, hf2, r, x', y', ms', rfl, hS'.toOp, hms', H.ent as4r⟩)
      · exact .inr (.inr ⟨h, fun _ => hf2, xE, hx, rfl, H⟩)
  | false =>
    have hf0 : f = 0 := hS.get rfl
    subst hf0
    have hl : l.Nodup := hp.nodup_iff.2 (allOf_nodup n)
    have hll : l.length = n := by rw [hp.length_eq, allOf_len]
    have hsv' : m.sv = l[i] := by rw [hsv, List.getD_eq_getElem?_getD, List.getElem?_eq_getElem (by omega), Option.getD_some]
    have hmem : 0 ≤ m.sv ∧ m.sv < (n : Int) := by rw [hsv']; exact allOf_mem.1 (hp.mem_iff.1 (List.getElem_mem (by omega)))
    have hcnt := counts_ok hS (by decide) (by rw [hn]; exact hmem) hk hcl hop hkey htg htp
    have hL' := hL.put hl (by omega) (repl_zero (y := y) (m := m) hL htp)
    rw [← hsv'] at hL'
    have hlen := hL'.len (by omega)
    generalize hLL : lput L m.sv (repl y L m) = L' at hL' hlen
    have hst : y.stg = .ask := hS.stg
    have hcf := hS.cfg
    subst hcf
    refine Rt.mono (handle_c (Pm := fun r R e A' => r = Slc.nil ∧ R = Rs.absent 1 ∧ e = true ∧ A' = cliA p { x with now := none }) hc hS.now hcnt (by rw [hst]; decide) (fun hmet w F H => ?_) H) ?_
    · rw [hLL] at H hmet
      refine Rt.mono (metNo_c hS.now hst (by omega) (hL'.topOf (by decide) (by omega)) hS.put H) ?_
      rintro v w7 ⟨rfl, H⟩
      rw [hS.op]
      exact ⟨Slc.nil, Rs.absent 1, true, _, rfl, ⟨rfl, rfl, rfl, rfl⟩, H.swap.drop.swap.drop.swap.drop⟩
    · rintro v w7 (⟨h, rfl, H⟩ | ⟨h, r', R, e, A', rfl, ⟨rfl, rfl, rfl, rfl⟩, H⟩)
      · rw [hLL] at h H
        exact .inl ⟨by omega, rfl, L', hL', H⟩
      · rw [hLL] at h
        exact .inr (.inr ⟨by omega, fun h => (nomatch h), _, rfl, rfl, H⟩)
theorem again_c (hc : c.Ok) (hS : OpSt b c id cd o key bs nt f x y) (hf : f ≤ 2) (hq : (c.N + c.K + 1) / 2 = (q : Int)) (hi : i < q) (hil : i ≤ l.length) (hL : Came l i Tg.zero L) (hmem : 0 ≤ m.sv ∧ m.sv < c.N) (hj : m.sv ∈ L.map (·.1))
    (hk : m.k = 2 * (f : Int) + 2) (hcl : m.cl = id) (hop : m.op = 1) (hkey : m.key = key) (htg : f ≠ 0 → m.tag = nt) (htp : m.top = Tg.zero)
    (H : Hp w0 w (star (cliA p x) (star (opnA o y) (star (phA y.ph (c, L)) (star Cd F))))) :
    Calls PP F_client_Client_Handle #[.pointer (some (blk p)), .agg m.c.toArray] w (Rt fun v w' => v = .tuple #[Slc.v Slc.nil, Rs.no.v, .bool false] ∧ ∃ L', Came l i Tg.zero L' ∧ Hp w0 w' (star (cliA p x) (star (opnA o y) (star (phA y.ph (c, L')) (star Cd F))))) := by
  have hcnt := counts_ok hS hf hmem hk hcl hop hkey htg htp
  have hL' := hL.again hj (repl_zero (y := y) (m := m) hL htp)
  have hlen := hL'.len hil
  have hst := hS.stg
  have hcf := hS.cfg
  subst hcf
  refine Rt.mono (handle_c (Pm := fun _ _ _ _ => False) hc hS.now hcnt (by rw [hst]; unfold stgOf; split <;> decide) (fun hmet w F H => ?_) H) ?_
  · omega
  · rintro v w7 (⟨h, rfl, H⟩ | ⟨h, r', R, e, A', rfl, hN, H⟩)
    · exact ⟨rfl, _, hL', H⟩
    · exact hN.elim
end
end Go.Proofs.YtabifopphhpciaaGreatDoor

namespace Go.Vc
open Go Go.Vc.Asn
theorem set_cut {α : Type} (l r : List α) (v : α) (o : Nat) (h : o + (r.length + 1) ≤ l.length) : (l.set o v).take (o + 1) ++ r ++ (l.set o v).drop (o + 1 + r.length) = l.take o ++ v :: r ++ l.drop (o + (r.length + 1)) := by
  have e : (l.take o).length = o := by rw [List.length_take]; omega
  have a1 : (l.take o ++ v :: l.drop (o + 1)).take (o + 1) = l.take o ++ [v] := by
    rw [List.take_append, e, List.take_of_length_le (l := l.take o) (by omega), show o + 1 - o = 1 by omega]; rfl
  have a2 : (l.take o ++ v :: l.drop (o + 1)).drop (o + 1 + r.length) = l.drop (o + (r.length + 1)) := by
    rw [List.drop_append, e, List.drop_of_length_le (l := l.take o) (by omega), show o + 1 + r.length - o = r.length + 1 by omega, List.drop_succ_cons, List.drop_drop, List.nil_append]
    congr 1; omega
  rw [List.set_eq_take_append_cons_drop, if_pos (by omega), a1, a2]
  simp
theorem Blk.setCells {g : Nat} {t : TypeId} : ∀ (vs : List Value) (o : Nat) (w : World) (cur : Array Value), Blk w g t cur → o + vs.length ≤ cur.size →
    ∃ cur' : Array Value, Blk (w.setCells g o vs) g t cur' ∧ cur'.toList = cur.toList.take o ++ vs ++ cur.toList.drop (o + vs.length) ∧ Fr [g] w (w.setCells g o vs)
  | [], o, w, cur, h, _ => ⟨cur, h, by simp, Fr.refl _ _⟩
  | v :: r, o, w, cur, h, hl => by
    have h1 : Blk (w.setCell ⟨g, o, none⟩ v) g t (cur.setIfInBounds o v) := by have := h.set o v; rw [blk_add] at this; exact this
    obtain ⟨cur', k1, k2, k3⟩ := Blk.setCells r (o + 1) _ _ h1 (by simp at hl ⊢; omega)
    refine ⟨cur', k1, ?_, ((Fr.set w ⟨g, o, none⟩ v).trans k3).sub fun k hk _ => by simpa using hk⟩
    rw [k2, Array.toList_setIfInBounds]
    exact set_cut cur.toList r v o (by simpa using hl)
def queP (size : Nat) (s : Slc) (cs : List Value) (g off : Nat) (cur : Array Value) : Prop := s.a = some ⟨g, off, none⟩ ∧ s.l ≤ s.c ∧ s.c ≤ maxLen ∧ cs.length = s.l * size ∧ off + s.c * size ≤ cur.size ∧ (cur.toList.drop off).take (s.l * size) = cs
def que (e size : Nat) (s : Slc) (cs : List Value) : Asn := Asn.ex fun x : Nat × Nat × Array Value => Asn.lift (queP size s cs x.1 x.2.1 x.2.2) (Asn.bk x.1 e x.2.2)
section
variable {w0 w : World} {F : Asn} {e size : Nat} {s : Slc} {cs c : List Value}
theorem que_of (hz : cs ≠ []) : Ent (own e size s cs) (que e size s cs) := by
  rintro w S ⟨h1, h2⟩
  obtain ⟨g, cur, ha, hb, hl, hm, hc, ht⟩ := h2.some_ hz
  refine ⟨(g, 0, cur), ⟨ha, hl, hm, h2.1, by simp only; omega, by simpa using ht⟩, fun k => (h1 k).trans ?_, hb⟩
  unfold Slc.blks
  rw [ha]
  simp
theorem que_cel (H : Hp w0 w (star (que e size s cs) F)) : Cel w s size cs := by
  obtain ⟨⟨g, off, cur⟩, H⟩ := H.ex
  obtain ⟨⟨ha, hl, hm, hn, hc, ht⟩, H⟩ := H.lift
  simp only at ha hn hc ht H
  refine ⟨hn, hl, fun i v hv => ⟨_, ha, ?_⟩⟩
  rw [Addr.add_lit, (H.isBlk (b := g)).at_]
  have hi : i < s.l * size := by have := (List.getElem?_eq_some_iff.1 hv).1; omega
  rw [← ht, List.getElem?_take_of_lt hi, List.getElem?_drop] at hv
  simpa using hv
theorem que_cut (h0 : 0 < size) (hc : c.length = size) : Ent (que e size s (c ++ cs)) (que e size (s.cut size 1 s.l) cs) := by
  rintro w S ⟨⟨g, off, cur⟩, ⟨ha, hl, hm, hn, hk, ht⟩, hb⟩
  simp only at ha hn hk ht hb
  rw [List.length_append, hc] at hn
  have hl1 : 1 ≤ s.l := by
    rcases Nat.eq_zero_or_pos s.l with h | h
    · rw [h] at hn; simp at hn; omega
    · exact h
  obtain ⟨l, hl2⟩ : ∃ l, s.l = l + 1 := ⟨s.l - 1, by omega⟩
  have hcs : cs.length = l * size := by rw [hl2, Nat.add_mul] at hn; omega
  by_cases h1 : s.c = 1
  · have hl0 : l = 0 := by omega
    subst hl0
    obtain rfl : cs = [] := List.eq_nil_of_length_eq_zero (by simpa using hcs)
    refine ⟨(g, off, cur), ⟨?_, ?_, ?_, ?_, ?_, ?_⟩, hb⟩
    · unfold Slc.cut; rw [if_pos h1]; exact ha
    · show s.l - 1 ≤ s.c - 1; omega
    · show s.c - 1 ≤ maxLen; omega
    · show [].length = (s.l - 1) * size; rw [hl2]; simp
    · show off + (s.c - 1) * size ≤ cur.size; rw [h1]; simp; omega
    · show (cur.toList.drop off).take ((s.l - 1) * size) = []; rw [hl2]; simp
  · refine ⟨(g, off + size, cur), ⟨?_, ?_, ?_, ?_, ?_, ?_⟩, hb⟩
    · unfold Slc.cut; rw [if_neg h1, ha, Option.map_some, Addr.add_lit, Nat.one_mul]
    · show s.l - 1 ≤ s.c - 1; omega
    · show s.c - 1 ≤ maxLen; omega
    · show cs.length = (s.l - 1) * size; rw [hl2]; exact hcs
    · show off + size + (s.c - 1) * size ≤ cur.size
      obtain ⟨k, hk2⟩ : ∃ k, s.c = k + 1 := ⟨s.c - 1, by omega⟩
      rw [hk2, Nat.add_mul] at hk
      rw [hk2, Nat.add_sub_cancel]
      omega
    · show (cur.toList.drop (off + size)).take ((s.l - 1) * size) = cs
      have e1 := congrArg (List.drop size) ht
      rw [List.drop_take, List.drop_drop, List.drop_left' hc, hl2, Nat.add_mul, Nat.one_mul, Nat.add_sub_cancel] at e1
      rw [hl2, Nat.add_sub_cancel]
      exact e1
theorem Hp.appQ {P : Program} {t bytes ty : Nat} {z : Value} (T : SlT P t e size bytes z) {y : Slc} {ys : List Value} {K : Slc → World → Prop} (H : Hp w0 w (star (que e size s cs) F)) (hy : Cel w y size ys)
    (h1 : ∀ u ∈ ys, u.oneCell' = true) (hm : s.l + y.l ≤ maxLen) (hb : (s.l + y.l) * bytes ≤ 140737488355328)
    (k : ∀ s' w', Hp w0 w' (star (que e size s' (cs ++ ys)) F) → s'.l = s.l + y.l → K s' w') : App P t t ty w s.v y.v K := by
  have hC := que_cel H
  obtain ⟨⟨g, off, cur⟩, H⟩ := H.ex
  obtain ⟨⟨ha, hl, hcm, hn, hc, ht⟩, HB⟩ := H.lift
  simp only at ha hn hc ht HB
  clear H
  have hB : Blk w g e cur := HB.isBlk (b := g)
  cases hi : P.info? e with
  | none => have := T.info; rw [hi] at this; simp at this
  | some i =>
    have hinfo := T.info
    rw [hi] at hinfo
    simp only [Option.map_some, Option.some.injEq, Prod.mk.injEq] at hinfo
    obtain ⟨hz, hs, hby⟩ := hinfo
    cases hya : y.a with
    | none =>
      have hys : ys = [] := by
        cases ys with
        | nil => rfl
        | cons v r =>
          obtain ⟨p, hp, _⟩ := hy.at_ 0 v rfl
          rw [hya] at hp
          cases hp
      subst hys
      have hyl : y.l = 0 := by
        have h5 : 0 = y.l * size := hy.len
        rcases Nat.mul_eq_zero.1 h5.symm with h6 | h6
        · exact h6
        · have := T.pos; omega
      refine ⟨s, w, ?_, k s w ?_ (by omega)⟩
      · simp only [Slc.v, hya, hyl, ha]
        simp [Builtin.append_, run_underlying T.ut, sizeOf, typeInfo, hi, Builtin.lenOf, Builtin.firstCells, hl, storeCells]
      · rw [List.append_nil]
        exact (HB.liftI (φ := queP size s cs g off cur) ⟨ha, hl, hcm, hn, hc, ht⟩).exI (f := fun x : Nat × Nat × Array Value => Asn.lift (queP size s cs x.1 x.2.1 x.2.2) (Asn.bk x.1 e x.2.2)) (g, off, cur)
    | some ad =>
      have hcy : ∀ j u, ys[j]? = some u → w.cell? (ad.add j) = some u := by
        intro j u hu
        obtain ⟨p, hp, hc⟩ := hy.at_ j u hu
        rw [hya] at hp
        injection hp with hp
        subst hp
        exact hc
      by_cases hroom : s.l + y.l ≤ s.c
      · subst hs
        have hfit : off + s.l * i.size + ys.length ≤ cur.size := by
          have : (s.l + y.l) * i.size ≤ s.c * i.size := Nat.mul_le_mul_right _ hroom
          rw [Nat.add_mul] at this
          have := hy.len
          omega
        obtain ⟨cur', k1, k2, k3⟩ := Blk.setCells ys (off + s.l * i.size) w cur hB hfit
        have hr := run_append_room_cells (P := P) w t ty e i T.ut hi g off s.l s.c ad y.l y.c ys hy.len hcy h1 hroom (fun j hj => by rw [hB.at_, Array.getElem?_eq_getElem (by omega)]; rfl) (fun j hj => by unfold Blk at hB; simp [World.frozen?, hB])
        have hlen : (cs ++ ys).length = (s.l + y.l) * i.size := by rw [List.length_append, hn, hy.len, Nat.add_mul]
        refine ⟨⟨some ⟨g, off, none⟩, s.l + y.l, s.c⟩, _, by simp only [Slc.v, hya, ha]; exact hr, k _ _ ?_ rfl⟩
        refine (HB.step (P' := que e i.size ⟨some ⟨g, off, none⟩, s.l + y.l, s.c⟩ (cs ++ ys)) fun S hS hp => ⟨[g], S, fun x hx => (hp.1 x).2 (by simpa using hx), k3, ⟨(g, off, cur'), ⟨rfl, hroom, hcm, hlen, ?_, ?_⟩, hp.1, k1⟩, fun x hx => .inl hx⟩)
        · have e1 := congrArg List.length k2
          simp only [List.length_append, List.length_take, List.length_drop, Array.length_toList] at e1
          show off + s.c * i.size ≤ cur'.size
          omega
        · show (cur'.toList.drop off).take ((s.l + y.l) * i.size) = cs ++ ys
          have e1 : (cur.toList.take (off + s.l * i.size)).length = off + s.l * i.size := by rw [List.length_take, Array.length_toList]; omega
          rw [k2, List.append_assoc, List.drop_append_of_le_length (by omega), List.drop_take, Nat.add_sub_cancel_left, ht, ← List.append_assoc, ← hlen]
          exact List.take_left
      · obtain ⟨v', w', hr, h2, h3⟩ := run_append_arg_grows (P := P) w t ty e i z size bytes T.ut hi hz hs hby T.zs T.pos ⟨g, off, none⟩ s.l s.c cs hn (fun j u hj => by
          obtain ⟨p, hp, hc⟩ := hC.at_ j u hj
          rw [ha] at hp
          injection hp with hp
          rw [hp]; exact hc) ad y.l y.c ys hy.len hcy (by omega) hm hb
        have hlen : (cs ++ ys).length = (s.l + y.l) * size := by rw [List.length_append, hn, hy.len, Nat.add_mul]
        rcases h2.2 with ⟨h5, h6⟩ | ⟨g2, cap, cur2, h5, h6, h7, h8, h9, h10, h11⟩
        · omega
        · refine ⟨⟨some ⟨g2, 0, none⟩, s.l + y.l, cap⟩, w', by subst h5; rw [← hr]; simp only [Slc.v, hya, ha], k _ _ ?_ rfl⟩
          refine (HB.step (P' := que e size ⟨some ⟨g2, 0, none⟩, s.l + y.l, cap⟩ (cs ++ ys)) fun S hS hp => ⟨[], fun x => x = g2, fun x hx => by simp at hx, by have := Fr.grown h3; simpa using this, ⟨(g2, 0, cur2), ⟨rfl, h8, h9, hlen, by simp only; omega, by simpa using h11⟩, fun x => Iff.rfl, h7⟩, fun x hx => .inr (by rw [hx]; exact h6)⟩)
end
end Go.Vc

namespace Go.Proofs.YtabifopphhpciaaGreatDoor
open Go Go.Vc Go.Vc.Asn Go.Gf
def nzC (n6 : Slc) (a167 : Int) (N40 : Option Addr) (w169 : World) (Q : Ending → World → Prop) (K : World → Prop) : Prop :=
  ∃ a179 : Addr, n6.a = some a179 ∧ (0 : Int) ≤ a167 ∧ (a167 : Int) < n6.l ∧ ∃ K183 : Int, w169.cell? ((a179.add (Int.toNat (a167) * 11)).add 0) = some (.int .i64 K183) ∧ ∃ C185 : Int, w169.cell? ((a179.add (Int.toNat (a167) * 11)).add 1) = some (.int .i64 C185) ∧ ∃ S187 : Int, w169.cell? ((a179.add (Int.toNat (a167) * 11)).add 2) = some (.int .i64 S187) ∧ ∃ O189 : Int, w169.cell? ((a179.add (Int.toNat (a167) * 11)).add 3) = some (.int .i64 O189) ∧ ∃ K191 : ByteArray, w169.cell? ((a179.add (Int.toNat (a167) * 11)).add 4) = some (.string K191) ∧ ∃ C193 : Int, w169.cell? ((a179.add (Int.toNat (a167) * 11)).add 5) = some (.int .i64 C193) ∧ ∃ C195 : Int, w169.cell? ((a179.add (Int.toNat (a167) * 11)).add 6) = some (.int .i64 C195) ∧ ∃ C197 : Int, w169.cell? ((a179.add (Int.toNat (a167) * 11)).add 7) = some (.int .i64 C197) ∧ ∃ C199 : Int, w169.cell? ((a179.add (Int.toNat (a167) * 11)).add 8) = some (.int .i64 C199) ∧ ∃ H201 : Bool, w169.cell? ((a179.add (Int.toNat (a167) * 11)).add 9) = some (.bool H201) ∧ ∃ D203 : Slc, w169.cell? ((a179.add (Int.toNat (a167) * 11)).add 10) = some (Slc.v D203) ∧ New w169 #[(.int .i64 0), (.int .i64 0), (.int .i64 0), (.int .i64 0), (.string (ByteArray.mk #[])), (.int .i64 0), (.int .i64 0), (.int .i64 0), (.int .i64 0), (.bool false), (Slc.v Slc.nil)] Ty_api_Message fun b205 w206 => StoN (blk b205) 0 [(.int .i64 K183), (.int .i64 C185), (.int .i64 S187), (.int .i64 O189), (.string K191), (.int .i64 C193), (.int .i64 C195), (.int .i64 C197), (.int .i64 C199), (.bool H201), (Slc.v D203)] w206 fun w208 => ∃ l210 : Int, w208.cell? ((blk b205).add 3) = some (.int .i64 l210) ∧ Sto w208 ((blk b205).add 3) (.int .i64 (orI .i64 l210 1099511627776)) fun w212 => ∃ K217 : Int, w212.cell? ((blk b205).add 0) = some (.int .i64 K217) ∧ ∃ C219 : Int, w212.cell? ((blk b205).add 1) = some (.int .i64 C219) ∧ ∃ S221 : Int, w212.cell? ((blk b205).add 2) = some (.int .i64 S221) ∧ ∃ O223 : Int, w212.cell? ((blk b205).add 3) = some (.int .i64 O223) ∧ ∃ K225 : ByteArray, w212.cell? ((blk b205).add 4) = some (.string K225) ∧ ∃ C227 : Int, w212.cell? ((blk b205).add 5) = some (.int .i64 C227) ∧ ∃ C229 : Int, w212.cell? ((blk b205).add 6) = some (.int .i64 C229) ∧ ∃ C231 : Int, w212.cell? ((blk b205).add 7) = some (.int .i64 C231) ∧ ∃ C233 : Int, w212.cell? ((blk b205).add 8) = some (.int .i64 C233) ∧ ∃ H235 : Bool, w212.cell? ((blk b205).add 9) = some (.bool H235) ∧ ∃ D237 : Slc, w212.cell? ((blk b205).add 10) = some (Slc.v D237) ∧ Calls PP F_client_Client_Handle #[(.pointer N40), (.agg #[(.int .i64 K217), (.int .i64 C219), (.int .i64 S221), (.int .i64 O223), (.string K225), (.int .i64 C227), (.int .i64 C229), (.int .i64 C231), (.int .i64 C233), (.bool H235), (Slc.v D237)])] w212 (CallK (fun v281 w239 => ∃ H240 : Slc, ∃ O241 : Int, ∃ P242 : Bool, ∃ S243 : Int, ∃ C244 : Int, ∃ C245 : Int, ∃ V246 : Slc, ∃ H247 : Bool, v281 = (.tuple #[(Slc.v H240), (.agg #[(.int .i64 O241), (.bool P242), (.int .i64 S243), (.int .i64 C244), (.int .i64 C245), (Slc.v V246)]), (.bool H247)]) ∧ New w239 #[(.int .i64 0), (.bool false), (.int .i64 0), (.int .i64 0), (.int .i64 0), (Slc.v Slc.nil)] Ty_api_Result fun b248 w249 => StoN (blk b248) 0 [(.int .i64 O241), (.bool P242), (.int .i64 S243), (.int .i64 C244), (.int .i64 C245), (Slc.v V246)] w249 fun w251 => ∃ R257 : Bool → World → Prop, ((((decide (0 < (H240.l : Int))) || H247) = false → ∃ O260 : Int, w251.cell? ((blk b248).add 0) = some (.int .i64 O260) ∧ ∃ P262 : Bool, w251.cell? ((blk b248).add 1) = some (.bool P262) ∧ ∃ S264 : Int, w251.cell? ((blk b248).add 2) = some (.int .i64 S264) ∧ ∃ C266 : Int, w251.cell? ((blk b248).add 3) = some (.int .i64 C266) ∧ ∃ C268 : Int, w251.cell? ((blk b248).add 4) = some (.int .i64 C268) ∧ ∃ V270 : Slc, w251.cell? ((blk b248).add 5) = some (Slc.v V270) ∧ Calls PP F_sherdlaw18_sameResult #[(.agg #[(.int .i64 O260), (.bool P262), (.int .i64 S264), (.int .i64 C266), (.int .i64 C268), (Slc.v V270)]), (.agg #[(.int .i64 0), (.bool false), (.int .i64 0), (.int .i64 0), (.int .i64 0), (Slc.v Slc.nil)])] w251 (CallK (fun v274 w272 => ∃ s273 : Bool, v274 = (.bool s273) ∧ R257 (!s273) w272) (fun c276 w277 => Q (.panicked c276) w277))) ∧ (((decide (0 < (H240.l : Int))) || H247) = true → R257 true w251)) ∧ ∀ (x258 : Bool) (w259 : World), R257 x258 w259 → (x258 = true → Q (.returned (.bool false)) w259) ∧ (x258 = false → K w259)) (fun c283 w284 => Q (.panicked c283) w284))
def anC (a16 : Addr) (b141 : Nat) (w169 : World) (Q : Ending → World → Prop) (K : Nat → World → Prop) : Prop :=
  ∃ l288 : Slc, ∃ l291 : Int, ∃ a294 : Addr, l288.a = some a294 ∧ (0 : Int) ≤ l291 ∧ (l291 : Int) < l288.l ∧ ∃ l298 : Option Addr, ∃ K301 : Int, ∃ C303 : Int, ∃ S305 : Int, ∃ O307 : Int, ∃ K309 : ByteArray, ∃ C311 : Int, ∃ C313 : Int, ∃ C315 : Int, ∃ C317 : Int, ∃ H319 : Bool, ∃ D321 : Slc, ∃ R286 : Option (Int × Int × Int × Int × ByteArray × Int × Int × Int × Int × Bool × Slc) → Option Nat → Option Unit → World → Prop, R286 none none none (w169.drewN 1) ∧ (∀ (o345 : Option Nat) (w287 : World), R286 none o345 none w287 → w287.cell? (a16.add 3) = some (Slc.v l288)) ∧ (∀ (o345 : Option Nat) (w287 : World), R286 none o345 none w287 → w287.cell? ((blk b141).add 2) = some (.int .i64 l291)) ∧ (∀ (o345 : Option Nat) (w287 : World), R286 none o345 none w287 → w287.cell? (a294.add (Int.toNat (l291) * 1)) = some (.pointer l298)) ∧ (∀ (o345 : Option Nat) (w287 : World), R286 none o345 none w287 → w287.cell? ((blk b141).add 0) = some (.int .i64 K301) ∧ w287.cell? ((blk b141).add 1) = some (.int .i64 C303) ∧ w287.cell? ((blk b141).add 2) = some (.int .i64 S305) ∧ w287.cell? ((blk b141).add 3) = some (.int .i64 O307) ∧ w287.cell? ((blk b141).add 4) = some (.string K309) ∧ w287.cell? ((blk b141).add 5) = some (.int .i64 C311) ∧ w287.cell? ((blk b141).add 6) = some (.int .i64 C313) ∧ w287.cell? ((blk b141).add 7) = some (.int .i64 C315) ∧ w287.cell? ((blk b141).add 8) = some (.int .i64 C317) ∧ w287.cell? ((blk b141).add 9) = some (.bool H319) ∧ w287.cell? ((blk b141).add 10) = some (Slc.v D321)) ∧ (∀ (o345 : Option Nat) (w287 : World), R286 none o345 none w287 → Calls PP F_sherdlaw18_Plain_answer #[(.pointer l298), (.agg #[(.int .i64 K301), (.int .i64 C303), (.int .i64 S305), (.int .i64 O307), (.string K309), (.int .i64 C311), (.int .i64 C313), (.int .i64 C315), (.int .i64 C317), (.bool H319), (Slc.v D321)])] w287 (CallK (fun v336 w324 => ∃ K325 : Int, ∃ C326 : Int, ∃ S327 : Int, ∃ O328 : Int, ∃ K329 : ByteArray, ∃ C330 : Int, ∃ C331 : Int, ∃ C332 : Int, ∃ C333 : Int, ∃ H334 : Bool, ∃ D335 : Slc, v336 = (.agg #[(.int .i64 K325), (.int .i64 C326), (.int .i64 S327), (.int .i64 O328), (.string K329), (.int .i64 C330), (.int .i64 C331), (.int .i64 C332), (.int .i64 C333), (.bool H334), (Slc.v D335)]) ∧ R286 (some (K325, C326, S327, O328, K329, C330, C331, C332, C333, H334, D335)) o345 none w324) (fun c338 w339 => Q (.panicked c338) w339))) ∧ (∀ (o344 : Option (Int × Int × Int × Int × ByteArray × Int × Int × Int × Int × Bool × Slc)) (w287 : World), R286 o344 none none w287 → New w287 #[(.int .i64 0), (.int .i64 0), (.int .i64 0), (.int .i64 0), (.string (ByteArray.mk #[])), (.int .i64 0), (.int .i64 0), (.int .i64 0), (.int .i64 0), (.bool false), (Slc.v Slc.nil)] Ty_api_Message fun b340 w341 => R286 o344 (some b340) none w341) ∧ (∀ (K325 : Int) (C326 : Int) (S327 : Int) (O328 : Int) (K329 : ByteArray) (C330 : Int) (C331 : Int) (C332 : Int) (C333 : Int) (H334 : Bool) (D335 : Slc) (b340 : Nat) (w287 : World), R286 (some (K325, C326, S327, O328, K329, C330, C331, C332, C333, H334, D335)) (some b340) none w287 → StoN (blk b340) 0 [(.int .i64 K325), (.int .i64 C326), (.int .i64 S327), (.int .i64 O328), (.string K329), (.int .i64 C330), (.int .i64 C331), (.int .i64 C332), (.int .i64 C333), (.bool H334), (Slc.v D335)] w287 fun w343 => R286 (some (K325, C326, S327, O328, K329, C330, C331, C332, C333, H334, D335)) (some b340) (some ()) w343) ∧ (∀ (K325 : Int) (C326 : Int) (S327 : Int) (O328 : Int) (K329 : ByteArray) (C330 : Int) (C331 : Int) (C332 : Int) (C333 : Int) (H334 : Bool) (D335 : Slc) (b340 : Nat) (w287 : World), R286 (some (K325, C326, S327, O328, K329, C330, C331, C332, C333, H334, D335)) (some b340) (some ()) w287 → K b340 w287)
def hdC (l97 : Slc) (b340 : Nat) (N40 N65 : Option Addr) (w287 : World) (Q : Ending → World → Prop) (K : Slc → World → Prop) : Prop :=
  ∃ K348 : Int, w287.cell? ((blk b340).add 0) = some (.int .i64 K348) ∧ ∃ C350 : Int, w287.cell? ((blk b340).add 1) = some (.int .i64 C350) ∧ ∃ S352 : Int, w287.cell? ((blk b340).add 2) = some (.int .i64 S352) ∧ ∃ O354 : Int, w287.cell? ((blk b340).add 3) = some (.int .i64 O354) ∧ ∃ K356 : ByteArray, w287.cell? ((blk b340).add 4) = some (.string K356) ∧ ∃ C358 : Int, w287.cell? ((blk b340).add 5) = some (.int .i64 C358) ∧ ∃ C360 : Int, w287.cell? ((blk b340).add 6) = some (.int .i64 C360) ∧ ∃ C362 : Int, w287.cell? ((blk b340).add 7) = some (.int .i64 C362) ∧ ∃ C364 : Int, w287.cell? ((blk b340).add 8) = some (.int .i64 C364) ∧ ∃ H366 : Bool, w287.cell? ((blk b340).add 9) = some (.bool H366) ∧ ∃ D368 : Slc, w287.cell? ((blk b340).add 10) = some (Slc.v D368) ∧ Calls PP F_client_Client_Handle #[(.pointer N40), (.agg #[(.int .i64 K348), (.int .i64 C350), (.int .i64 S352), (.int .i64 O354), (.string K356), (.int .i64 C358), (.int .i64 C360), (.int .i64 C362), (.int .i64 C364), (.bool H366), (Slc.v D368)])] w287 (CallK (fun v586 w370 => ∃ H371 : Slc, ∃ O372 : Int, ∃ P373 : Bool, ∃ S374 : Int, ∃ C375 : Int, ∃ C376 : Int, ∃ V377 : Slc, ∃ H378 : Bool, v586 = (.tuple #[(Slc.v H371), (.agg #[(.int .i64 O372), (.bool P373), (.int .i64 S374), (.int .i64 C375), (.int .i64 C376), (Slc.v V377)]), (.bool H378)]) ∧ New w370 #[(.int .i64 0), (.bool false), (.int .i64 0), (.int .i64 0), (.int .i64 0), (Slc.v Slc.nil)] Ty_api_Result fun b379 w380 => StoN (blk b379) 0 [(.int .i64 O372), (.bool P373), (.int .i64 S374), (.int .i64 C375), (.int .i64 C376), (Slc.v V377)] w380 fun w382 => ∃ K384 : Int, w382.cell? ((blk b340).add 0) = some (.int .i64 K384) ∧ ∃ C386 : Int, w382.cell? ((blk b340).add 1) = some (.int .i64 C386) ∧ ∃ S388 : Int, w382.cell? ((blk b340).add 2) = some (.int .i64 S388) ∧ ∃ O390 : Int, w382.cell? ((blk b340).add 3) = some (.int .i64 O390) ∧ ∃ K392 : ByteArray, w382.cell? ((blk b340).add 4) = some (.string K392) ∧ ∃ C394 : Int, w382.cell? ((blk b340).add 5) = some (.int .i64 C394) ∧ ∃ C396 : Int, w382.cell? ((blk b340).add 6) = some (.int .i64 C396) ∧ ∃ C398 : Int, w382.cell? ((blk b340).add 7) = some (.int .i64 C398) ∧ ∃ C400 : Int, w382.cell? ((blk b340).add 8) = some (.int .i64 C400) ∧ ∃ H402 : Bool, w382.cell? ((blk b340).add 9) = some (.bool H402) ∧ ∃ D404 : Slc, w382.cell? ((blk b340).add 10) = some (Slc.v D404) ∧ Calls PP F_client_Client_Handle #[(.pointer N65), (.agg #[(.int .i64 K384), (.int .i64 C386), (.int .i64 S388), (.int .i64 O390), (.string K392), (.int .i64 C394), (.int .i64 C396), (.int .i64 C398), (.int .i64 C400), (.bool H402), (Slc.v D404)])] w382 (CallK (fun v582 w406 => ∃ H407 : Slc, ∃ O408 : Int, ∃ P409 : Bool, ∃ S410 : Int, ∃ C411 : Int, ∃ C412 : Int, ∃ V413 : Slc, ∃ H414 : Bool, v582 = (.tuple #[(Slc.v H407), (.agg #[(.int .i64 O408), (.bool P409), (.int .i64 S410), (.int .i64 C411), (.int .i64 C412), (Slc.v V413)]), (.bool H414)]) ∧ New w406 #[(.int .i64 0), (.bool false), (.int .i64 0), (.int .i64 0), (.int .i64 0), (Slc.v Slc.nil)] Ty_api_Result fun b415 w416 => StoN (blk b415) 0 [(.int .i64 O408), (.bool P409), (.int .i64 S410), (.int .i64 C411), (.int .i64 C412), (Slc.v V413)] w416 fun w418 => ∃ R423 : Bool → World → Prop, (((decide (H378 ≠ H414)) = false → ∃ O426 : Int, w418.cell? ((blk b379).add 0) = some (.int .i64 O426) ∧ ∃ P428 : Bool, w418.cell? ((blk b379).add 1) = some (.bool P428) ∧ ∃ S430 : Int, w418.cell? ((blk b379).add 2) = some (.int .i64 S430) ∧ ∃ C432 : Int, w418.cell? ((blk b379).add 3) = some (.int .i64 C432) ∧ ∃ C434 : Int, w418.cell? ((blk b379).add 4) = some (.int .i64 C434) ∧ ∃ V436 : Slc, w418.cell? ((blk b379).add 5) = some (Slc.v V436) ∧ ∃ O438 : Int, w418.cell? ((blk b415).add 0) = some (.int .i64 O438) ∧ ∃ P440 : Bool, w418.cell? ((blk b415).add 1) = some (.bool P440) ∧ ∃ S442 : Int, w418.cell? ((blk b415).add 2) = some (.int .i64 S442) ∧ ∃ C444 : Int, w418.cell? ((blk b415).add 3) = some (.int .i64 C444) ∧ ∃ C446 : Int, w418.cell? ((blk b415).add 4) = some (.int .i64 C446) ∧ ∃ V448 : Slc, w418.cell? ((blk b415).add 5) = some (Slc.v V448) ∧ Calls PP F_sherdlaw18_sameResult #[(.agg #[(.int .i64 O426), (.bool P428), (.int .i64 S430), (.int .i64 C432), (.int .i64 C434), (Slc.v V436)]), (.agg #[(.int .i64 O438), (.bool P440), (.int .i64 S442), (.int .i64 C444), (.int .i64 C446), (Slc.v V448)])] w418 (CallK (fun v452 w450 => ∃ s451 : Bool, v452 = (.bool s451) ∧ R423 (!s451) w450) (fun c454 w455 => Q (.panicked c454) w455))) ∧ ((decide (H378 ≠ H414)) = true → R423 true w418)) ∧ ∀ (x424 : Bool) (w425 : World), R423 x424 w425 → ∃ R458 : Bool → World → Prop, ((x424 = false → Calls PP F_sherdlaw18_sameMessages #[(Slc.v H371), (Slc.v H407)] w425 (CallK (fun v463 w461 => ∃ s462 : Bool, v463 = (.bool s462) ∧ R458 (!s462) w461) (fun c465 w466 => Q (.panicked c465) w466))) ∧ (x424 = true → R458 true w425)) ∧ ∀ (x459 : Bool) (w460 : World), R458 x459 w460 → (x459 = true → Q (.returned (.bool false)) w460) ∧ (x459 = false → (H378 = true → Calls PP F_client_Client_Now #[(.pointer N40)] w460 (CallK (fun v482 w473 => ∃ N474 : Int, ∃ N475 : Bool, ∃ N476 : ByteArray, ∃ C477 : Int, ∃ C478 : Int, ∃ N479 : Int, ∃ N480 : Int, v482 = (.tuple #[(.int .i64 N474), (.bool N475), (.string N476), (.agg #[(.int .i64 C477), (.int .i64 C478)]), (.int .i64 N479), (.int .i64 N480)]) ∧ Q (.returned (.bool (decide (N480 = 71)))) w473) (fun c484 w485 => Q (.panicked c484) w485))) ∧ (H378 = false → App PP Ty_sl_api_Message Ty_sl_api_Message Ty_sl_api_Message w460 (Slc.v (l97.cut 11 (Int.toNat (1)) (Int.toNat ((l97.l : Int))))) (Slc.v H371) fun s487 w488 => ∃ K491 : Int, w488.cell? ((blk b340).add 0) = some (.int .i64 K491) ∧ ∃ C493 : Int, w488.cell? ((blk b340).add 1) = some (.int .i64 C493) ∧ ∃ S495 : Int, w488.cell? ((blk b340).add 2) = some (.int .i64 S495) ∧ ∃ O497 : Int, w488.cell? ((blk b340).add 3) = some (.int .i64 O497) ∧ ∃ K499 : ByteArray, w488.cell? ((blk b340).add 4) = some (.string K499) ∧ ∃ C501 : Int, w488.cell? ((blk b340).add 5) = some (.int .i64 C501) ∧ ∃ C503 : Int, w488.cell? ((blk b340).add 6) = some (.int .i64 C503) ∧ ∃ C505 : Int, w488.cell? ((blk b340).add 7) = some (.int .i64 C505) ∧ ∃ C507 : Int, w488.cell? ((blk b340).add 8) = some (.int .i64 C507) ∧ ∃ H509 : Bool, w488.cell? ((blk b340).add 9) = some (.bool H509) ∧ ∃ D511 : Slc, w488.cell? ((blk b340).add 10) = some (Slc.v D511) ∧ Calls PP F_client_Client_Handle #[(.pointer N40), (.agg #[(.int .i64 K491), (.int .i64 C493), (.int .i64 S495), (.int .i64 O497), (.string K499), (.int .i64 C501), (.int .i64 C503), (.int .i64 C505), (.int .i64 C507), (.bool H509), (Slc.v D511)])] w488 (CallK (fun v576 w513 => ∃ H514 : Slc, ∃ O515 : Int, ∃ P516 : Bool, ∃ S517 : Int, ∃ C518 : Int, ∃ C519 : Int, ∃ V520 : Slc, ∃ H521 : Bool, v576 = (.tuple #[(Slc.v H514), (.agg #[(.int .i64 O515), (.bool P516), (.int .i64 S517), (.int .i64 C518), (.int .i64 C519), (Slc.v V520)]), (.bool H521)]) ∧ StoN (blk b379) 0 [(.int .i64 O515), (.bool P516), (.int .i64 S517), (.int .i64 C518), (.int .i64 C519), (Slc.v V520)] w513 fun w522 => ∃ R528 : Bool → World → Prop, ((((decide (0 < (H514.l : Int))) || H521) = false → ∃ O531 : Int, w522.cell? ((blk b379).add 0) = some (.int .i64 O531) ∧ ∃ P533 : Bool, w522.cell? ((blk b379).add 1) = some (.bool P533) ∧ ∃ S535 : Int, w522.cell? ((blk b379).add 2) = some (.int .i64 S535) ∧ ∃ C537 : Int, w522.cell? ((blk b379).add 3) = some (.int .i64 C537) ∧ ∃ C539 : Int, w522.cell? ((blk b379).add 4) = some (.int .i64 C539) ∧ ∃ V541 : Slc, w522.cell? ((blk b379).add 5) = some (Slc.v V541) ∧ Calls PP F_sherdlaw18_sameResult #[(.agg #[(.int .i64 O531), (.bool P533), (.int .i64 S535), (.int .i64 C537), (.int .i64 C539), (Slc.v V541)]), (.agg #[(.int .i64 0), (.bool false), (.int .i64 0), (.int .i64 0), (.int .i64 0), (Slc.v Slc.nil)])] w522 (CallK (fun v545 w543 => ∃ s544 : Bool, v545 = (.bool s544) ∧ R528 (!s544) w543) (fun c547 w548 => Q (.panicked c547) w548))) ∧ (((decide (0 < (H514.l : Int))) || H521) = true → R528 true w522)) ∧ ∀ (x529 : Bool) (w530 : World), R528 x529 w530 → ∃ R551 : Bool → World → Prop, ((x529 = false → Calls PP F_client_Client_Tick #[(.pointer N40)] w530 (CallK (fun v568 w554 => ∃ T555 : Slc, v568 = (Slc.v T555) ∧ Calls PP F_client_Client_Tick #[(.pointer N65)] w554 (CallK (fun v564 w556 => ∃ T557 : Slc, v564 = (Slc.v T557) ∧ Calls PP F_sherdlaw18_sameMessages #[(Slc.v T555), (Slc.v T557)] w556 (CallK (fun v560 w558 => ∃ s559 : Bool, v560 = (.bool s559) ∧ R551 (!s559) w558) (fun c562 w563 => Q (.panicked c562) w563))) (fun c566 w567 => Q (.panicked c566) w567))) (fun c570 w571 => Q (.panicked c570) w571))) ∧ (x529 = true → R551 true w530)) ∧ ∀ (x552 : Bool) (w553 : World), R551 x552 w553 → (x552 = true → Q (.returned (.bool false)) w553) ∧ (x552 = false → K s487 w553)) (fun c578 w579 => Q (.panicked c578) w579))))) (fun c584 w585 => Q (.panicked c584) w585))) (fun c588 w589 => Q (.panicked c588) w589))
def lpC (l85 n6 : Slc) (a16 : Addr) (N40 N65 : Option Addr) (w87 : World) (Q : Ending → World → Prop) : Prop :=
  ∃ (I101 : Slc → Int → Int → World → Prop) (m102 : Slc → Int → Int → World → Nat), I101 l85 0 0 w87 ∧ ∀ (l97 : Slc) (a98 : Int) (n99 : Int) (w100 : World), I101 l97 a98 n99 w100 → (((decide (0 < (l97.l : Int))) && (decide (n99 < 4096))) = true → ∃ R111 : Slc → Int → World → Prop, (∃ a115 : Addr, l97.a = some a115 ∧ (0 : Int) ≤ 0 ∧ (0 : Int) < l97.l ∧ ∃ K119 : Int, w100.cell? ((a115.add (Int.toNat (0) * 11)).add 0) = some (.int .i64 K119) ∧ ∃ C121 : Int, w100.cell? ((a115.add (Int.toNat (0) * 11)).add 1) = some (.int .i64 C121) ∧ ∃ S123 : Int, w100.cell? ((a115.add (Int.toNat (0) * 11)).add 2) = some (.int .i64 S123) ∧ ∃ O125 : Int, w100.cell? ((a115.add (Int.toNat (0) * 11)).add 3) = some (.int .i64 O125) ∧ ∃ K127 : ByteArray, w100.cell? ((a115.add (Int.toNat (0) * 11)).add 4) = some (.string K127) ∧ ∃ C129 : Int, w100.cell? ((a115.add (Int.toNat (0) * 11)).add 5) = some (.int .i64 C129) ∧ ∃ C131 : Int, w100.cell? ((a115.add (Int.toNat (0) * 11)).add 6) = some (.int .i64 C131) ∧ ∃ C133 : Int, w100.cell? ((a115.add (Int.toNat (0) * 11)).add 7) = some (.int .i64 C133) ∧ ∃ C135 : Int, w100.cell? ((a115.add (Int.toNat (0) * 11)).add 8) = some (.int .i64 C135) ∧ ∃ H137 : Bool, w100.cell? ((a115.add (Int.toNat (0) * 11)).add 9) = some (.bool H137) ∧ ∃ D139 : Slc, w100.cell? ((a115.add (Int.toNat (0) * 11)).add 10) = some (Slc.v D139) ∧ New w100 #[(.int .i64 0), (.int .i64 0), (.int .i64 0), (.int .i64 0), (.string (ByteArray.mk #[])), (.int .i64 0), (.int .i64 0), (.int .i64 0), (.int .i64 0), (.bool false), (Slc.v Slc.nil)] Ty_api_Message fun b141 w142 => StoN (blk b141) 0 [(.int .i64 K119), (.int .i64 C121), (.int .i64 S123), (.int .i64 O125), (.string K127), (.int .i64 C129), (.int .i64 C131), (.int .i64 C133), (.int .i64 C135), (.bool H137), (Slc.v D139)] w142 fun w144 => (0 : Int) ≤ 1 ∧ (1 : Int) ≤ (l97.l : Int) ∧ ((l97.l : Int) : Int) ≤ (l97.c : Int) ∧ ∃ l152 : Int, w144.cell? ((blk b141).add 2) = some (.int .i64 l152) ∧ ∃ x160 : Bool, ((decide (l152 < 0)) = false → ∃ l156 : Int, w144.cell? ((blk b141).add 2) = some (.int .i64 l156) ∧ ∃ l158 : Slc, w144.cell? (a16.add 3) = some (Slc.v l158) ∧ x160 = (decide ((l158.l : Int) ≤ l156))) ∧ ((decide (l152 < 0)) = true → x160 = true) ∧ ∀ k151 : Nat, (x160 = true → Q (.returned (.bool false)) (w144.drewN k151)) ∧ (x160 = false → ∃ (I170 : Int → Int → World → Prop) (m171 : Int → Int → World → Nat), I170 a98 0 (w144.drewN k151) ∧ ∀ (a167 : Int) (k168 : Int) (w169 : World), I170 a167 k168 w169 → (((decide (k168 < 3)) && (decide (a167 < (n6.l : Int)))) = true → nzC n6 a167 N40 w169 Q (fun w259 => (I170 (wr .i64 (a167 + 1)) (wr .i64 (k168 + 1)) w259 ∧ m171 (wr .i64 (a167 + 1)) (wr .i64 (k168 + 1)) w259 < m171 a167 k168 w169))) ∧ (((decide (k168 < 3)) && (decide (a167 < (n6.l : Int)))) = false → anC a16 b141 w169 Q (fun b340 w287 => hdC l97 b340 N40 N65 w287 Q (fun s487 w553 => R111 s487 a167 w553))))) ∧ ∀ (l109 : Slc) (a110 : Int) (w112 : World), R111 l109 a110 w112 → (I101 l109 a110 (wr .i64 (n99 + 1)) w112 ∧ m102 l109 a110 (wr .i64 (n99 + 1)) w112 < m102 l97 a98 n99 w100)) ∧ (((decide (0 < (l97.l : Int))) && (decide (n99 < 4096))) = false → Q (.returned (.bool false)) w100)
section
variable {w0 w : World} {F A : Asn} {p o tp b141 : Nat} {x : Cl} {y : Opn} {m : Ms} {s sv : Slc} {nz : List Ms} {xs : List Pl} {N K D : Int}
theorem wrap_one (v : Nat) (hlt : v < 2 ^ 64) (h : IntKind.i64.wrap (v : Int) = 1) : v = 1 := by
  have e : (v : Int) % 2 ^ IntKind.i64.bits = v := Int.emod_eq_of_lt (by omega) (by show (v : Int) < 2 ^ 64; omega)
  have e2 : (2 : Int) ^ IntKind.i64.bits = 18446744073709551616 := by decide
  unfold IntKind.wrap at h
  dsimp only at h
  split at h
  · rw [e, e2] at h; omega
  · rw [e] at h; omega
theorem or_ne (X : BitVec 64) (h : (X ||| BitVec.ofInt 64 1099511627776).toNat = 1) : False := by
  have h2 : (X ||| BitVec.ofInt 64 1099511627776).toNat.testBit 40 = true := by
    rw [BitVec.testBit_toNat, BitVec.getLsbD_or]
    have : (BitVec.ofInt 64 1099511627776).getLsbD 40 = true := by decide
    rw [this, Bool.or_true]
  rw [h] at h2
  exact absurd h2 (by decide)
theorem orI_ne (z : Int) : orI .i64 z 1099511627776 ≠ 1 := fun h =>
  or_ne (BitVec.ofInt 64 z) (wrap_one _ (BitVec.ofInt 64 z ||| BitVec.ofInt 64 1099511627776).isLt h)
theorem nz_c {Q : Ending → World → Prop} {K : World → Prop} {i : Nat} (hnz : Cel w s 11 (nz.flatMap Ms.c)) (hi : i < nz.length) (hnow : x.now = some o) (hop : y.op = 1) (H : Hp w0 w (star (cliA p x) (star (opnA o y) F)))
    (hK : ∀ w', Fr [] w w' → K w') : nzC s (i : Int) (some (blk p)) w Q K := by
  unfold nzC
  have hsl : s.l = nz.length := Cel.flen (enc := Ms.c) ms_len hnz (by decide)
  obtain ⟨a, ha, hc⟩ := Cel.elem (enc := Ms.c) ms_len hnz (List.getElem?_eq_getElem hi) (by decide)
  generalize nz[i] = m at hc
  refine ⟨a, ha, by omega, by omega, _, hc 0 _ rfl, _, hc 1 _ rfl, _, hc 2 _ rfl, _, hc 3 _ rfl, _, hc 4 _ rfl, _, hc 5 _ rfl, _, hc 6 _ rfl, _, hc 7 _ rfl, _, hc 8 _ rfl, _, hc 9 _ rfl, _, hc 10 _ rfl, nw fun b205 w1 J _ => J.stoAll (b := b205) (by rfl) fun w2 J => ⟨_, J.cell (b := b205) (i := 3) rfl, J.sto (b := b205) (i := 3) (by simp) fun w3 J => ?_⟩⟩
  refine ⟨_, J.cell (b := b205) (i := 0) rfl, _, J.cell (b := b205) (i := 1) rfl, _, J.cell (b := b205) (i := 2) rfl, _, J.cell (b := b205) (i := 3) rfl, _, J.cell (b := b205) (i := 4) rfl, _, J.cell (b := b205) (i := 5) rfl, _, J.cell (b := b205) (i := 6) rfl, _, J.cell (b := b205) (i := 7) rfl, _, J.cell (b := b205) (i := 8) rfl, _, J.cell (b := b205) (i := 9) rfl, _, J.cell (b := b205) (i := 10) rfl, ?_⟩
  refine call (handleNo_c (m := { m with op := orI .i64 m.op 1099511627776 }) hnow (counts_op (by rw [hop]; exact orI_ne m.op)) (H.fr0 J.fr)) ?_
  rintro _ w4 ⟨rfl, f4⟩
  have J := J.fr0 f4
  refine ⟨_, _, _, _, _, _, _, _, rfl, J.new fun b248 w5 J => J.stoAll (b := b248) (by rfl) fun w6 J => ⟨fun z w' => z = false ∧ Fr [] w w', ⟨fun _ => ⟨_, J.cell (b := b248) (i := 0) rfl, _, J.cell (b := b248) (i := 1) rfl, _, J.cell (b := b248) (i := 2) rfl, _, J.cell (b := b248) (i := 3) rfl, _, J.cell (b := b248) (i := 4) rfl, _, J.cell (b := b248) (i := 5) rfl, call (sameR_c (R := Rs.no) rfl) ?_⟩, fun h => absurd h (by decide)⟩, ?_⟩⟩
  · rintro _ w7 ⟨rfl, f7⟩
    exact ⟨_, rfl, rfl, J.fr.then_ f7⟩
  · rintro _ w7 ⟨rfl, f7⟩
    exact ⟨fun h => (nomatch h), fun _ => hK _ f7⟩
abbrev MsU := Int × Int × Int × Int × ByteArray × Int × Int × Int × Int × Bool × Slc
def msU (a : Ms) : MsU := (a.k, a.cl, a.sv, a.op, a.key, a.tag.n, a.tag.c, a.top.n, a.top.c, a.has, a.data)
def anB (o1 : Option MsU) (o2 : Option Nat) (o3 : Option Unit) (F : Asn) : Asn :=
  match o2, o3, o1 with
  | none, _, _ => F
  | some b, none, _ => star (bk b Ty_api_Message #[.int .i64 0, .int .i64 0, .int .i64 0, .int .i64 0, .string (ByteArray.mk #[]), .int .i64 0, .int .i64 0, .int .i64 0, .int .i64 0, .bool false, Slc.v Slc.nil]) F
  | some b, some _, some (K, C, S, O, Ke, T1, T2, P1, P2, Hs, D) => star (bk b Ty_api_Message #[.int .i64 K, .int .i64 C, .int .i64 S, .int .i64 O, .string Ke, .int .i64 T1, .int .i64 T2, .int .i64 P1, .int .i64 P2, .bool Hs, Slc.v D]) F
  | some _, some _, none => F
abbrev tnA (tp : Nat) (sv : Slc) (xs : List Pl) (N K D : Int) (F : Asn) : Asn := star (bk tp Ty_sherdlaw18_Town #[.int .i64 N, .int .i64 K, .int .i64 D, Slc.v sv]) (star (own Ty_p_sherdlaw18_Plain 1 sv (xs.map plV)) (star (all plA xs) F))
def anR (w0 : World) (m : Ms) (b141 tp j : Nat) (sv : Slc) (xs : List Pl) (N K D : Int) (x0 : Pl) (F : Asn) (o1 : Option MsU) (o2 : Option Nat) (o3 : Option Unit) (w' : World) : Prop :=
  match o1 with
  | none => Hp w0 w' (anB none o2 o3 (star (bk b141 Ty_api_Message m.c.toArray) (star (mdA m) (tnA tp sv xs N K D F))))
  | some u => ∃ (a : Ms) (x' : Pl), u = msU a ∧ x'.b = x0.b ∧ x'.abs = (plAns x0.abs m.abs).1 ∧ a.abs = (plAns x0.abs m.abs).2 ∧ Hp w0 w' (anB (some u) o2 o3 (star (mdA a) (tnA tp sv (xs.set j x') N K D F)))
theorem plV_set {x' : Pl} {j : Nat} (hj : j < xs.length) (h : x'.b = xs[j].b) : (xs.set j x').map plV = xs.map plV := by
  have e : plV x' = (xs.map plV)[j]'(by simpa using hj) := by rw [List.getElem_map]; show Value.pointer (some (blk x'.b)) = .pointer (some (blk xs[j].b)); rw [h]
  rw [List.map_set, e, List.set_getElem_self]
theorem an_c {Q : Ending → World → Prop} {K0 : Nat → World → Prop} {j : Nat} (hj : j < xs.length) (hsv : m.sv = (j : Int)) (hb : m.bs.length ≤ 1099511627776) (hl : xs[j].l.length ≤ 999999999) (hlb : ∀ h ∈ xs[j].abs, h.bs.length ≤ 1099511627776) (hk0 : 0 ≤ m.k) (hk1 : m.k ≤ 1000)
    (H : Hp w0 w (star (bk b141 Ty_api_Message m.c.toArray) (star (mdA m) (tnA tp sv xs N K D F))))
    (hK : ∀ b340 w' (a : Ms) (x' : Pl), x'.b = xs[j].b → x'.abs = (plAns xs[j].abs m.abs).1 → a.abs = (plAns xs[j].abs m.abs).2 → Hp w0 w' (star (bk b340 Ty_api_Message a.c.toArray) (star (mdA a) (tnA tp sv (xs.set j x') N K D F))) → K0 b340 w') : anC (blk tp) b141 w Q K0 := by
  unfold anC
  have hsl : sv.l = xs.length := by
    have := (H.cel (s := sv)).len
    rw [List.length_map] at this
    omega
  obtain ⟨a, ha, -⟩ := (H.cel (s := sv)).at_ j (plV xs[j]) (by rw [List.getElem?_map, List.getElem?_eq_getElem hj]; rfl)
  refine ⟨sv, (j : Int), a, ha, by omega, by omega, some (blk xs[j].b), m.k, m.cl, m.sv, m.op, m.key, m.tag.n, m.tag.c, m.top.n, m.top.c, m.has, m.data, anR w0 m b141 tp j sv xs N K D xs[j] F, H.drew 1, ?_, ?_, ?_, ?_, ?_, ?_, ?_, ?_⟩
  · rintro (_ | b) w5 H
    · have H : Hp w0 w5 (star (bk b141 Ty_api_Message m.c.toArray) (star (mdA m) (tnA tp sv xs N K D F))) := H
      exact H.cell (b := tp) (i := 3) rfl
    · have H : Hp w0 w5 (star (bk b Ty_api_Message #[.int .i64 0, .int .i64 0, .int .i64 0, .int .i64 0, .string (ByteArray.mk #[]), .int .i64 0, .int .i64 0, .int .i64 0, .int .i64 0, .bool false, Slc.v Slc.nil]) (star (bk b141 Ty_api_Message m.c.toArray) (star (mdA m) (tnA tp sv xs N K D F)))) := H
      exact H.cell (b := tp) (i := 3) rfl
  · rintro (_ | b) w5 H
    · have H : Hp w0 w5 (star (bk b141 Ty_api_Message m.c.toArray) (star (mdA m) (tnA tp sv xs N K D F))) := H
      rw [← hsv]
      exact H.cell (b := b141) (i := 2) rfl
    · have H : Hp w0 w5 (star (bk b Ty_api_Message #[.int .i64 0, .int .i64 0, .int .i64 0, .int .i64 0, .string (ByteArray.mk #[]), .int .i64 0, .int .i64 0, .int .i64 0, .int .i64 0, .bool false, Slc.v Slc.nil]) (star (bk b141 Ty_api_Message m.c.toArray) (star (mdA m) (tnA tp sv xs N K D F)))) := H
      rw [← hsv]
      exact H.cell (b := b141) (i := 2) rfl
  · have rd : ∀ {w5 : World}, Cel w5 sv 1 (xs.map plV) → w5.cell? (a.add (Int.toNat (j : Int) * 1)) = some (.pointer (some (blk xs[j].b))) := fun {w5} hC => by
      obtain ⟨a', ha', hc⟩ := hC.at_ j (plV xs[j]) (by rw [List.getElem?_map, List.getElem?_eq_getElem hj]; rfl)
      obtain rfl : a = a' := by rw [ha] at ha'; injection ha'
      rw [Int.toNat_natCast, Nat.mul_one]
      exact hc
    rintro (_ | b) w5 H
    · have H : Hp w0 w5 (star (bk b141 Ty_api_Message m.c.toArray) (star (mdA m) (tnA tp sv xs N K D F))) := H
      exact rd (H.cel (s := sv))
    · have H : Hp w0 w5 (star (bk b Ty_api_Message #[.int .i64 0, .int .i64 0, .int .i64 0, .int .i64 0, .string (ByteArray.mk #[]), .int .i64 0, .int .i64 0, .int .i64 0, .int .i64 0, .bool false, Slc.v Slc.nil]) (star (bk b141 Ty_api_Message m.c.toArray) (star (mdA m) (tnA tp sv xs N K D F)))) := H
      exact rd (H.cel (s := sv))
  · rintro (_ | b) w5 H
    · have H : Hp w0 w5 (star (bk b141 Ty_api_Message m.c.toArray) (star (mdA m) (tnA tp sv xs N K D F))) := H
      exact ⟨H.cell (b := b141) (i := 0) rfl, H.cell (b := b141) (i := 1) rfl, H.cell (b := b141) (i := 2) rfl, H.cell (b := b141) (i := 3) rfl, H.cell (b := b141) (i := 4) rfl, H.cell (b := b141) (i := 5) rfl, H.cell (b := b141) (i := 6) rfl, H.cell (b := b141) (i := 7) rfl, H.cell (b := b141) (i := 8) rfl, H.cell (b := b141) (i := 9) rfl, H.cell (b := b141) (i := 10) rfl⟩
    · have H : Hp w0 w5 (star (bk b Ty_api_Message #[.int .i64 0, .int .i64 0, .int .i64 0, .int .i64 0, .string (ByteArray.mk #[]), .int .i64 0, .int .i64 0, .int .i64 0, .int .i64 0, .bool false, Slc.v Slc.nil]) (star (bk b141 Ty_api_Message m.c.toArray) (star (mdA m) (tnA tp sv xs N K D F)))) := H
      exact ⟨H.cell (b := b141) (i := 0) rfl, H.cell (b := b141) (i := 1) rfl, H.cell (b := b141) (i := 2) rfl, H.cell (b := b141) (i := 3) rfl, H.cell (b := b141) (i := 4) rfl, H.cell (b := b141) (i := 5) rfl, H.cell (b := b141) (i := 6) rfl, H.cell (b := b141) (i := 7) rfl, H.cell (b := b141) (i := 8) rfl, H.cell (b := b141) (i := 9) rfl, H.cell (b := b141) (i := 10) rfl⟩
  · rintro o2 w5 H
    have go : ∀ {R : Asn}, Hp w0 w5 (star (plA xs[j]) (star (mdA m) (star (all plA (xs.take j ++ xs.drop (j + 1))) R))) → Calls PP F_sherdlaw18_Plain_answer #[.pointer (some (blk xs[j].b)), .agg m.c.toArray] w5 (Rt fun v w' => ∃ (x' : Pl) (a : Ms), v = .agg a.c.toArray ∧ x'.b = xs[j].b ∧ x'.abs = (plAns xs[j].abs m.abs).1 ∧ a.abs = (plAns xs[j].abs m.abs).2 ∧ Hp w0 w' (star (mdA a) (star (mdA m) (star (all plA (xs.set j x')) R)))) := fun {R} H => by
      refine Rt.mono (plAns_c (Vp := mdA m) (fun {w' A'} (H : Hp w0 w' (star (own Ty_uint8 1 m.data (m.bs.map u8v)) A')) => H.cel (s := m.data)) hb hl hlb hk0 hk1 H) ?_
      rintro v w6 ⟨x', a, rfl, h1, h2, h3, H⟩
      refine ⟨x', a, rfl, h1, h2, h3, ?_⟩
      have H := (H.take (all plA (xs.take j ++ xs.drop (j + 1)))).take (plA x')
      exact (((H.assoc'.ent (Ent.star (all_put plA x' xs j hj) (Ent.refl _))).take (mdA m)).take (mdA a))
    cases o2 with
    | none =>
      have H : Hp w0 w5 (star (bk b141 Ty_api_Message m.c.toArray) (star (mdA m) (tnA tp sv xs N K D F))) := H
      have H := (H.take (all plA xs)).ent (Ent.star (all_at plA xs j hj) (Ent.refl _))
      have H := ((H.assoc.take (all plA (xs.take j ++ xs.drop (j + 1)))).take (mdA m)).take (plA xs[j])
      refine call (go H) ?_
      rintro _ w6 ⟨x', a', rfl, h1, h2, h3, H⟩
      refine ⟨_, _, _, _, _, _, _, _, _, _, _, rfl, a', x', rfl, h1, h2, h3, ?_⟩
      have H := ((H.take (mdA m)).drop.blk b141).drop
      show Hp w0 w6 (star (mdA a') (tnA tp sv (xs.set j x') N K D F))
      unfold tnA
      rw [plV_set hj h1]
      exact ((((H.take (all plA (xs.set j x'))).own sv).blk tp).take (mdA a'))
    | some b =>
      have H : Hp w0 w5 (star (bk b Ty_api_Message #[.int .i64 0, .int .i64 0, .int .i64 0, .int .i64 0, .string (ByteArray.mk #[]), .int .i64 0, .int .i64 0, .int .i64 0, .int .i64 0, .bool false, Slc.v Slc.nil]) (star (bk b141 Ty_api_Message m.c.toArray) (star (mdA m) (tnA tp sv xs N K D F)))) := H
      have H := (H.take (all plA xs)).ent (Ent.star (all_at plA xs j hj) (Ent.refl _))
      have H := ((H.assoc.take (all plA (xs.take j ++ xs.drop (j + 1)))).take (mdA m)).take (plA xs[j])
      refine call (go H) ?_
      rintro _ w6 ⟨x', a', rfl, h1, h2, h3, H⟩
      refine ⟨_, _, _, _, _, _, _, _, _, _, _, rfl, a', x', rfl, h1, h2, h3, ?_⟩
      have H := ((H.take (mdA m)).drop.blk b141).drop
      show Hp w0 w6 (star (bk b Ty_api_Message #[.int .i64 0, .int .i64 0, .int .i64 0, .int .i64 0, .string (ByteArray.mk #[]), .int .i64 0, .int .i64 0, .int .i64 0, .int .i64 0, .bool false, Slc.v Slc.nil]) (star (mdA a') (tnA tp sv (xs.set j x') N K D F)))
      unfold tnA
      rw [plV_set hj h1]
      exact (((((H.take (all plA (xs.set j x'))).own sv).blk tp).take (mdA a')).blk b)
  · rintro o1 w5 H
    cases o1 with
    | none =>
      have H : Hp w0 w5 (star (bk b141 Ty_api_Message m.c.toArray) (star (mdA m) (tnA tp sv xs N K D F))) := H
      exact H.new fun b w6 H => H
    | some u =>
      obtain ⟨a', x', rfl, h1, h2, h3, H⟩ := H
      have H : Hp w0 w5 (star (mdA a') (tnA tp sv (xs.set j x') N K D F)) := H
      exact H.new fun b w6 H => ⟨a', x', rfl, h1, h2, h3, H⟩
  · rintro k1 k2 k3 k4 k5 k6 k7 k8 k9 k10 k11 b w5 ⟨a', x', hu, h1, h2, h3, H⟩
    have H : Hp w0 w5 (star (bk b Ty_api_Message #[.int .i64 0, .int .i64 0, .int .i64 0, .int .i64 0, .string (ByteArray.mk #[]), .int .i64 0, .int .i64 0, .int .i64 0, .int .i64 0, .bool false, Slc.v Slc.nil]) (star (mdA a') (tnA tp sv (xs.set j x') N K D F))) := H
    exact H.stoAll (b := b) (by rfl) fun w6 H => ⟨a', x', hu, h1, h2, h3, H⟩
  · rintro k1 k2 k3 k4 k5 k6 k7 k8 k9 k10 k11 b w5 ⟨a', x', hu, h1, h2, h3, H⟩
    refine hK b w5 a' x' h1 h2 h3 ?_
    simp only [msU, Prod.mk.injEq] at hu
    obtain ⟨rfl, rfl, rfl, rfl, rfl, rfl, rfl, rfl, rfl, rfl, rfl⟩ := hu
    exact H
theorem all_app {α : Type} (f : α → Asn) (l' : List α) : ∀ l : List α, Ent (star (all f l) (all f l')) (all f (l ++ l'))
  | [] => emp_l'
  | _ :: l => assoc.trans (Ent.star (Ent.refl _) (all_app f l' l))
theorem hd_c {Q : Ending → World → Prop} {K0 : Slc → World → Prop} {p p' b340 : Nat} {l97 : Slc} {ql : List Ms} {A1 B1 G : Asn} {R : Rs} {e : Bool} {PA PB DA : List Ms → Asn → Prop} {am : List Ms → Asn → Asn → List Am}
    (hv : R.val = Slc.nil)
    (hA : ∀ {w F}, Hp w0 w (star A1 F) → Calls PP F_client_Client_Handle #[.pointer (some (blk p)), .agg m.c.toArray] w (Rt fun v w' => ∃ r ms A2, v = .tuple #[Slc.v r, R.v, .bool e] ∧ PA ms A2 ∧ Hp w0 w' (star (msgsA r ms) (star A2 F))))
    (hB : ∀ {w F}, Hp w0 w (star B1 F) → Calls PP F_client_Client_Handle #[.pointer (some (blk p')), .agg m.c.toArray] w (Rt fun v w' => ∃ r ms B2, v = .tuple #[Slc.v r, R.v, .bool e] ∧ PB ms B2 ∧ Hp w0 w' (star (msgsA r ms) (star B2 F))))
    (hAB : ∀ ms A2 ms' B2, PA ms A2 → PB ms' B2 → ms.map Ms.abs = ms'.map Ms.abs) (hlen : ∀ ms A2, PA ms A2 → ms.length ≤ 255) (hql : ql.length ≤ 1000)
    (hdone : e = true → ∀ ms A2, PA ms A2 → ∃ x' : Cl, x'.now = none ∧ A2 = cliA p x')
    (hdup : e = false → ∀ ms A2, PA ms A2 → ∀ {w F}, Hp w0 w (star A2 F) → Calls PP F_client_Client_Handle #[.pointer (some (blk p)), .agg m.c.toArray] w (Rt fun v w' => v = .tuple #[Slc.v Slc.nil, Rs.no.v, .bool false] ∧ ∃ A3, DA ms A3 ∧ Hp w0 w' (star A3 F)))
    (htA : e = false → ∀ ms A3 ms' B2, DA ms A3 → PB ms' B2 → (am ms A3 B2).length ≤ 255 ∧ ∀ {w F}, Hp w0 w (star A3 F) → Calls PP F_client_Client_Tick #[.pointer (some (blk p))] w (Rt fun v w' => ∃ r tm, v = Slc.v r ∧ tm.map Ms.abs = am ms A3 B2 ∧ Hp w0 w' (star (msgsA r tm) (star A3 F))))
    (htB : e = false → ∀ ms A3 ms' B2, DA ms A3 → PB ms' B2 → ∀ {w F}, Hp w0 w (star B2 F) → Calls PP F_client_Client_Tick #[.pointer (some (blk p'))] w (Rt fun v w' => ∃ r tm, v = Slc.v r ∧ tm.map Ms.abs = am ms A3 B2 ∧ Hp w0 w' (star (msgsA r tm) (star B2 F))))
    (hK : e = false → ∀ ms A3 ms' B2 s' w', DA ms A3 → PB ms' B2 → Hp w0 w' (star (que Ty_api_Message 11 s' ((ql ++ ms).flatMap Ms.c)) (star (all mdA (ql ++ ms)) (star A3 (star B2 G)))) → K0 s' w')
    (hQ : e = true → ∀ w', Fr [] w0 w' → Q (.returned (.bool true)) w')
    (H : Hp w0 w (star (que Ty_api_Message 11 (l97.cut 11 (Int.toNat 1) (Int.toNat (l97.l : Int))) (ql.flatMap Ms.c)) (star (all mdA ql) (star A1 (star B1 (star (bk b340 Ty_api_Message m.c.toArray) G)))))) :
    hdC l97 b340 (some (blk p)) (some (blk p')) w Q K0 := by
  unfold hdC
  refine ⟨_, H.cell (b := b340) (i := 0) rfl, _, H.cell (b := b340) (i := 1) rfl, _, H.cell (b := b340) (i := 2) rfl, _, H.cell (b := b340) (i := 3) rfl, _, H.cell (b := b340) (i := 4) rfl, _, H.cell (b := b340) (i := 5) rfl, _, H.cell (b := b340) (i := 6) rfl, _, H.cell (b := b340) (i := 7) rfl, _, H.cell (b := b340) (i := 8) rfl, _, H.cell (b := b340) (i := 9) rfl, _, H.cell (b := b340) (i := 10) rfl, call (hA (H.take A1)) ?_⟩
  rintro _ w1 ⟨r, ms, A2, rfl, hPA, H⟩
  refine ⟨_, _, _, _, _, _, _, _, rfl, H.new fun b379 w2 H => H.stoAll (b := b379) (by rfl) fun w3 H => ?_⟩
  refine ⟨_, H.cell (b := b340) (i := 0) rfl, _, H.cell (b := b340) (i := 1) rfl, _, H.cell (b := b340) (i := 2) rfl, _, H.cell (b := b340) (i := 3) rfl, _, H.cell (b := b340) (i := 4) rfl, _, H.cell (b := b340) (i := 5) rfl, _, H.cell (b := b340) (i := 6) rfl, _, H.cell (b := b340) (i := 7) rfl, _, H.cell (b := b340) (i := 8) rfl, _, H.cell (b := b340) (i := 9) rfl, _, H.cell (b := b340) (i := 10) rfl, call (hB (H.take B1)) ?_⟩
  rintro _ w4 ⟨r', ms', B2, rfl, hPB, H⟩
  have hab := hAB _ _ _ _ hPA hPB
  have hml := hlen _ _ hPA
  refine ⟨_, _, _, _, _, _, _, _, rfl, H.new fun b415 w5 H => H.stoAll (b := b415) (by rfl) fun w6 H => ⟨fun z w' => z = false ∧ Fr [] w6 w', ⟨fun _ => ⟨_, H.cell (b := b379) (i := 0) rfl, _, H.cell (b := b379) (i := 1) rfl, _, H.cell (b := b379) (i := 2) rfl, _, H.cell (b := b379) (i := 3) rfl, _, H.cell (b := b379) (i := 4) rfl, _, H.cell (b := b379) (i := 5) rfl, _, H.cell (b := b415) (i := 0) rfl, _, H.cell (b := b415) (i := 1) rfl, _, H.cell (b := b415) (i := 2) rfl, _, H.cell (b := b415) (i := 3) rfl, _, H.cell (b := b415) (i := 4) rfl, _, H.cell (b := b415) (i := 5) rfl, call (sameR_c (R := R) hv) ?_⟩, fun h => ?_⟩, ?_⟩⟩
  · rintro _ w7 ⟨rfl, f7⟩
    exact ⟨_, rfl, rfl, f7⟩
  · exact absurd rfl (of_decide_eq_true h)
  rintro _ w7 ⟨rfl, f7⟩
  have H := H.fr0 f7
  refine ⟨fun z w' => z = false ∧ Fr [] w7 w', ⟨fun _ => call (sameMs_c hab (by omega) (H.take (msgsA r ms)) (H.take (msgsA r' ms'))) ?_, fun h => (nomatch h)⟩, ?_⟩
  · rintro _ w8 ⟨rfl, f8⟩
    exact ⟨_, rfl, rfl, f8⟩
  rintro _ w8 ⟨rfl, f8⟩
  have H := H.fr0 f8
  refine ⟨fun h => (nomatch h), fun _ => ⟨fun he => ?_, fun he => ?_⟩⟩
  · obtain ⟨x', hx', rfl⟩ := hdone he _ _ hPA
    refine call (nowIdle_c hx' (H.take (cliA p x'))) ?_
    rintro _ w9 ⟨rfl, f9⟩
    exact ⟨_, _, _, _, _, _, _, rfl, hQ he _ (H.fr0 f9).fr⟩
  subst he
  have hdup2 := @hdup rfl ms A2 hPA
  have H := (H.take (msgsA r ms)).assoc
  have hy : Cel w8 r 11 (ms.flatMap Ms.c) := H.cel (s := r)
  have hyl : r.l = ms.length := Cel.flen (enc := Ms.c) ms_len hy (by decide)
  have H := H.take (que Ty_api_Message 11 (l97.cut 11 (Int.toNat 1) (Int.toNat (l97.l : Int))) (ql.flatMap Ms.c))
  have hsl : (l97.cut 11 (Int.toNat 1) (Int.toNat (l97.l : Int))).l = ql.length := Cel.flen (enc := Ms.c) ms_len (que_cel H) (by decide)
  refine Hp.appQ slT_sl_api_Message H hy (one_ms ms) (by unfold maxLen; omega) (by omega) fun s' w9 H _ => ?_
  refine ⟨_, H.cell (b := b340) (i := 0) rfl, _, H.cell (b := b340) (i := 1) rfl, _, H.cell (b := b340) (i := 2) rfl, _, H.cell (b := b340) (i := 3) rfl, _, H.cell (b := b340) (i := 4) rfl, _, H.cell (b := b340) (i := 5) rfl, _, H.cell (b := b340) (i := 6) rfl, _, H.cell (b := b340) (i := 7) rfl, _, H.cell (b := b340) (i := 8) rfl, _, H.cell (b := b340) (i := 9) rfl, _, H.cell (b := b340) (i := 10) rfl, call (hdup2 (H.take A2)) ?_⟩
  rintro _ w10 ⟨rfl, A3, hD, H⟩
  refine ⟨_, _, _, _, _, _, _, _, rfl, H.stoAll (b := b379) (by rfl) fun w11 H => ⟨fun z w' => z = false ∧ Fr [] w11 w', ⟨fun _ => ⟨_, H.cell (b := b379) (i := 0) rfl, _, H.cell (b := b379) (i := 1) rfl, _, H.cell (b := b379) (i := 2) rfl, _, H.cell (b := b379) (i := 3) rfl, _, H.cell (b := b379) (i := 4) rfl, _, H.cell (b := b379) (i := 5) rfl, call (sameR_c (R := Rs.no) rfl) ?_⟩, fun h => absurd h (by decide)⟩, ?_⟩⟩
  · rintro _ w12 ⟨rfl, f12⟩
    exact ⟨_, rfl, rfl, f12⟩
  rintro _ w12 ⟨rfl, f12⟩
  have H := H.fr0 f12
  obtain ⟨hal, hta⟩ := htA rfl _ _ _ _ hD hPB
  have htb := @htB rfl ms A3 ms' B2 hD hPB
  refine ⟨fun z w' => z = false ∧ Hp w0 w' (star (que Ty_api_Message 11 s' ((ql ++ ms).flatMap Ms.c)) (star (all mdA (ql ++ ms)) (star A3 (star B2 G)))), ⟨fun _ => call (hta (H.take A3)) ?_, fun h => (nomatch h)⟩, ?_⟩
  · rintro _ w13 ⟨ra, ta, rfl, hta2, H⟩
    refine ⟨_, rfl, call (htb (H.take B2)) ?_⟩
    rintro _ w14 ⟨rb, tb, rfl, htb2, H⟩
    have htl : ta.length ≤ 255 := by have := congrArg List.length hta2; rw [List.length_map] at this; omega
    refine ⟨_, rfl, call (sameMs_c (hta2.trans htb2.symm) (by omega) (H.take (msgsA ra ta)) (H.take (msgsA rb tb))) ?_⟩
    rintro _ w15 ⟨rfl, f15⟩
    have H := H.fr0 f15
    refine ⟨_, rfl, rfl, ?_⟩
    have H := (((((((H.take (msgsA ra ta)).drop.take (msgsA rb tb)).drop.take (msgsA r' ms')).drop.blk b379).drop.blk b415).drop.blk b340).drop.own r).drop
    rw [List.flatMap_append]
    have H := ((H.take (all mdA ms)).take (all mdA ql)).assoc'.ent (Ent.star (all_app mdA ms ql) (Ent.refl _))
    exact (((H.take B2).take A3).take (all mdA (ql ++ ms))).take (que Ty_api_Message 11 s' (ql.flatMap Ms.c ++ ms.flatMap Ms.c))
  · rintro _ w13 ⟨rfl, H⟩
    exact ⟨fun h => (nomatch h), fun _ => hK rfl _ _ _ _ _ _ hD hPB H⟩
end
end Go.Proofs.YtabifopphhpciaaGreatDoor
