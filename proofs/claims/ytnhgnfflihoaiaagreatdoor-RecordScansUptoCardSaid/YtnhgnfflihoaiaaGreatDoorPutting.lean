/-
  Both writers, side by side; updates in memory.
-/
import Derived.Test.YtnhgnfflihoaiaaGreatDoorApart
namespace Go.Vc
open Go
theorem Byt.frB {S : List Nat} {w w' : World} {s : Slc} {bs : List UInt8} (h : Byt w s bs) (f : Fr S w w') (hS : ∀ k ∈ S, ∃ T cs, Blk w k T cs ∧ ∀ (i : Nat) (b : UInt8), cs[i]? ≠ some (u8v b)) : Byt w' s bs := by
  refine ⟨Cel.len h, h.cap, fun i v hv => ?_⟩
  obtain ⟨p, hp, hc⟩ := h.at_ i v hv
  refine ⟨p, hp, f.cell hc fun hx => ?_⟩
  obtain ⟨T, cs, hB, hne⟩ := hS _ hx
  simp only [List.getElem?_map, Option.map_eq_some_iff] at hv
  obtain ⟨b, _, rfl⟩ := hv
  unfold World.cell? at hc
  rw [hB] at hc
  simp only at hc
  split at hc
  · cases hc
  · exact hne _ b hc
end Go.Vc
namespace Go.Proofs.YtnhgnfflihoaiaaGreatDoor
open Go Go.Vc

theorem fr_u8 {S : List Nat} {w : World} (h : ∀ k ∈ S, ∃ T cs, T ≠ Ty_uint8 ∧ Blk w k T cs) : ∀ b cs, Blk w b Ty_uint8 cs → b ∉ S := by
  intro b cs hb hx
  obtain ⟨T, ds, hT, hB⟩ := h b hx
  exact hb.ne_ hB (Ne.symm hT) rfl
theorem no_u8 {s : Slc} {n : Int} (i : Nat) (b : UInt8) : (#[s.v, .int .i64 n] : Array Value)[i]? ≠ some (u8v b) := by
  intro h
  rcases i with _ | _ | i
  · simp [Slc.v] at h
  · simp at h
  · simp at h
theorem RW.blk {w : World} {p : Nat} {last : List UInt8} {n : Int} (h : RW w p last n) : ∃ cs, Blk w p Ty_record_Writer cs ∧ ∀ (i : Nat) (b : UInt8), cs[i]? ≠ some (u8v b) := ⟨_, h.own.choose_spec.1, no_u8⟩
theorem QRW.blk {w : World} {p : Nat} {last : List UInt8} {n : Int} (h : QRW w p last n) : ∃ cs, Blk w p Ty_sherdref11_Writer cs ∧ ∀ (i : Nat) (b : UInt8), cs[i]? ≠ some (u8v b) := ⟨_, h.own.choose_spec.1, no_u8⟩
structure Two (w : World) (p q : Nat) (last : List UInt8) (n : Nat) : Prop where
  l4 : last.length = 4
  rw : RW w p last (n : Int)
  qw : QRW w q last (n : Int)
theorem Two.fr0 {w w' : World} {p q : Nat} {last : List UInt8} {n : Nat} (h : Two w p q last n) (f : Fr [] w w') : Two w' p q last n := ⟨h.l4, h.rw.fr f (by simp) fun _ _ _ => by simp, h.qw.fr f (by simp) fun _ _ _ => by simp⟩
theorem Two.ne {w : World} {p q : Nat} {last : List UInt8} {n : Nat} (h : Two w p q last n) : p ≠ q := by
  obtain ⟨cs, h1, _⟩ := h.rw.blk
  obtain ⟨ds, h2, _⟩ := h.qw.blk
  exact h1.ne_ h2 (by decide)

def putOut (m : Int) (last body : List UInt8) : List UInt8 := if m = 0 then recPre body ++ recSum last body else []
def putLast (m : Int) (last body : List UInt8) : List UInt8 := if m = 0 then recSum last body else last
def putN (m : Int) (n : Nat) : Nat := if m = 0 then n + 1 else n
theorem putLast_len {m : Int} {last body : List UInt8} (h : last.length = 4) : (putLast m last body).length = 4 := by
  unfold putLast; split
  · exact le4_len _
  · exact h
theorem Row.nil (w w' : World) : Row w w' Slc.nil [] := ⟨Own.nil _ _ _, fun k hk => by simp [Slc.blks] at hk⟩
theorem putOut_len {kind : Int} {key : ByteArray} {cnt cli : Int} {fin has : Bool} {ds last : List UInt8} : (putOut (mayV kind key.size cnt cli fin has ds.length) last (bodyBs kind.toNat key cnt.toNat cli.toNat fin has ds)).length ≤ 66000 := by
  unfold putOut
  split
  · rename_i h
    obtain ⟨h1, h2, h3, h4, h5, h6⟩ := may_ok h
    have := bodyBs_len (kind := kind.toNat) (cnt := cnt.toNat) (cli := cli.toNat) (key := key) (fin := fin) (has := has) (ds := ds) (by rw [Int.toNat_of_nonneg (by omega), Int.toNat_of_nonneg (by omega), Int.toNat_of_nonneg (by omega)]; exact h)
    have h9 := uv_len9 (n := (bodyBs kind.toNat key cnt.toNat cli.toNat fin has ds).length) (by omega)
    simp [recPre, recSum, le4_len]
    omega
  · simp
section
variable {p q : Nat} {last : List UInt8} {n : Nat} {kind cnt cli : Int} {key : ByteArray} {fin has : Bool} {data : Slc} {ds : List UInt8} {w : World}
theorem put_u (hG : GT w) (hg : G_sum_steps ≠ p) (hR : RW w p last (n : Int)) (hl : last.length = 4) (hn : n < 9223372036854775807) (hd : Byt w data ds) :
    Calls PP F_record_Writer_Put #[.pointer (some (blk p)), .agg #[.int .i64 kind, .string key, .int .i64 cnt, .int .i64 cli, .bool fin, .bool has, data.v]] w (Rt fun v w' =>
      ∃ (m : Int) (body : List UInt8) (s : Slc), m = mayV kind key.size cnt cli fin has ds.length ∧ body = bodyBs kind.toNat key cnt.toNat cli.toNat fin has ds ∧ v = .tuple #[Slc.v s, .int .i64 m] ∧ Row w w' s (putOut m last body) ∧ Fr [p] w w' ∧ RW w' p (putLast m last body) (putN m n : Nat)) := by
  refine Rt.mono (put_c hG hg hR hl hn hd) ?_
  rintro _ w' (⟨h, rfl, f⟩ | ⟨h, s, body, rfl, rfl, hr, f, hW⟩)
  · refine ⟨_, _, Slc.nil, rfl, rfl, rfl, ?_, f.sub fun k hk => absurd hk (by simp), ?_⟩
    · rw [putOut, if_neg h]; exact Row.nil _ _
    · rw [putLast, putN, if_neg h, if_neg h]; exact hR.fr f (by simp) fun _ _ _ => by simp
  · refine ⟨_, _, s, rfl, rfl, by rw [h], ?_, f, ?_⟩
    · rw [putOut, if_pos h]; exact hr
    · rw [putLast, putN, if_pos h, if_pos h]; exact hW
theorem rput_u (hR : QRW w q last (n : Int)) (hl : last.length = 4) (hn : n < 9223372036854775807) (hd : Byt w data ds) :
    Calls PP F_sherdref11_Writer_Put #[.pointer (some (blk q)), .agg #[.int .i64 kind, .string key, .int .i64 cnt, .int .i64 cli, .bool fin, .bool has, data.v]] w (Rt fun v w' =>
      ∃ (m : Int) (body : List UInt8) (s : Slc), m = mayV kind key.size cnt cli fin has ds.length ∧ body = bodyBs kind.toNat key cnt.toNat cli.toNat fin has ds ∧ v = .tuple #[Slc.v s, .int .i64 m] ∧ Row w w' s (putOut m last body) ∧ Fr [q] w w' ∧ QRW w' q (putLast m last body) (putN m n : Nat)) := by
  refine Rt.mono (rput_c hR hl hn hd) ?_
  rintro _ w' (⟨h, rfl, f⟩ | ⟨h, s, body, rfl, rfl, hr, f, hW⟩)
  · refine ⟨_, _, Slc.nil, rfl, rfl, rfl, ?_, f.sub fun k hk => absurd hk (by simp), ?_⟩
    · rw [putOut, if_neg h]; exact Row.nil _ _
    · rw [putLast, putN, if_neg h, if_neg h]; exact hR.fr f (by simp) fun _ _ _ => by simp
  · refine ⟨_, _, s, rfl, rfl, by rw [h], ?_, f, ?_⟩
    · rw [putOut, if_pos h]; exact hr
    · rw [putLast, putN, if_pos h, if_pos h]; exact hW
end
theorem Row.fr {S : List Nat} {w0 w w' : World} {s : Slc} {bs : List UInt8} (h : Row w0 w s bs) (f : Fr S w w') (hS : ∀ k ∈ S, k < w0.heap.size ∨ ∃ T cs, T ≠ Ty_uint8 ∧ Blk w k T cs) : Row w0 w' s bs := by
  refine ⟨h.own.fr f fun k hk hx => ?_, h.new⟩
  rcases hS k hx with h1 | ⟨T, cs, h1, h2⟩
  · have := h.new k hk; omega
  · exact h.own.ne h2 (Ne.symm h1) hk
theorem Row.since {w0 w1 w : World} {s : Slc} {bs : List UInt8} (h : Row w1 w s bs) (hs : w0.heap.size ≤ w1.heap.size) : Row w0 w s bs := ⟨h.own, fun k hk => Nat.le_trans hs (h.new k hk)⟩

theorem putting_c {p q : Nat} {last : List UInt8} {n : Nat} {kind cnt cli : Int} {key : ByteArray} {fin has : Bool} {data : Slc} {ds : List UInt8} {w : World} (hG : GT w) (hg1 : G_sum_steps ≠ p) (hg2 : G_sum_steps ≠ q) (hT : Two w p q last n) (hn : n < 9223372036854775807) (hd : Byt w data ds) (hm : ds.length ≤ 140737488355000) :
    Calls PP F_sherdlaw11_putting #[.pointer (some (blk p)), .pointer (some (blk q)), .agg #[.int .i64 kind, .string key, .int .i64 cnt, .int .i64 cli, .bool fin, .bool has, data.v]] w (Rt fun v w' =>
      ∃ s bs last' n', v = .tuple #[Slc.v s, .bool true] ∧ Row w w' s bs ∧ bs.length ≤ 4398046511104 ∧ Fr [p, q] w w' ∧ Two w' p q last' n' ∧ n' ≤ n + 1) := by
  have hdl := hd.len
  refine sim_sherdlaw11_putting _ _ _ _ _ _ _ _ _ _ _ ?_
  unfold vc_sherdlaw11_putting
  refine New.intro fun b w1 nb => call (lent_c (hd.fr0 nb.fr) hm) ?_
  rintro _ w2 ⟨y, rfl, hY⟩
  have f02 := nb.fr.then_ hY.fr
  have hB2 := nb.blk.fr hY.fr (by simp)
  have hyl := hY.byt.len
  simp at hyl
  have hyc := hY.byt.cap
  refine ⟨y, rfl, _, hB2.cell rfl, _, hB2.cell rfl, _, hB2.cell rfl, _, hB2.cell rfl, _, hB2.cell rfl, _, hB2.cell rfl, _, hB2.cell rfl, ?_⟩
  refine New.intro fun u w3 nu => nu.blk.stoAll rfl fun w4 hU fU => ?_
  have f24 := nu.frS fU
  have f04 := f02.then_ f24
  have hB4 := hB2.fr f24 (by simp)
  refine ⟨data, hB4.cell2 rfl, by omega, by omega, by omega, ?_⟩
  have hY4 := hY.more f24
  refine hU.sto2 (lt_ rfl) fun w5 hU5 fU5 => ?_
  have f25 : Fr [] w2 w5 := f24.local_ fU5 fun x hx => .inr (by simp at hx; rw [hx, nu.at_]; exact Nat.le_refl _)
  have f05 := f02.then_ f25
  have hB5 := hB2.fr f25 (by simp)
  have hY5 := hY.more f25
  have hd5 := hd.fr0 f05
  refine ⟨_, hB5.cell rfl, _, hB5.cell rfl, _, hB5.cell rfl, _, hB5.cell rfl, _, hB5.cell rfl, _, hB5.cell rfl, _, hB5.cell rfl, ?_⟩
  have hT5 := hT.fr0 f05
  have hG5 := hG.fr0 f05
  have hcut : ∀ {w' : World}, Byt w' y (ds ++ [77]) → Byt w' (y.cut 1 (0 : Int).toNat (data.l : Int).toNat) ds := fun h => by
    refine cut_all h (by simp) (by simp [hdl]) ?_
    simp [hdl]
  refine call (rput_u hT5.qw hT5.l4 hn hd5) ?_
  rintro _ w6 ⟨m, body, s6, hm', hbody, rfl, hr6, f6, hQ6⟩
  obtain ⟨qcs, hqb, hqu⟩ := hT5.qw.blk
  obtain ⟨pcs, hpb, hpu⟩ := hT5.rw.blk
  have hpq := hT5.ne
  have hU6 := hU5.fr f6 (by simp only [List.mem_singleton]; exact hU5.ne_ hqb (by decide))
  refine ⟨_, _, rfl, _, hU6.cell rfl, _, hU6.cell rfl, _, hU6.cell rfl, _, hU6.cell rfl, _, hU6.cell rfl, _, hU6.cell rfl, y.cut 1 (0 : Int).toNat (data.l : Int).toNat, hU6.cell rfl, ?_⟩
  have hyq : ∀ k ∈ y.blks, k ∉ [q] := fun k hk hx => by
    simp at hx; subst hx
    exact hY5.own.ne hqb (by decide) hk
  have hYO6 := hY5.own.fr f6 hyq
  have hY6 : Byt w6 y (ds ++ [77]) := hYO6.cel
  have hG6 := hG5.fr f6 (by simp only [List.mem_singleton]; exact hg2)
  have hR6 := hT5.rw.fr f6 (by simp only [List.mem_singleton]; exact hpq) (fr_u8 fun k hk => by simp at hk; subst hk; exact ⟨_, _, by decide, hqb⟩)
  refine call (put_u hG6 hg1 hR6 hT5.l4 hn (hcut hY6)) ?_
  rintro _ w7 ⟨m', body', s7, hm2, hbody2, rfl, hr7, f7, hR7⟩
  have em : m' = m := by rw [hm2, hm']
  have eb : body' = body := by rw [hbody2, hbody]
  subst em eb
  have hpb6 := hpb.fr f6 (by simp only [List.mem_singleton]; exact hpq)
  obtain ⟨qcs6, hqb6, _⟩ := hQ6.blk
  have hQ7 := hQ6.fr f7 (by simp only [List.mem_singleton]; exact Ne.symm hpq) (fr_u8 fun k hk => by simp at hk; subst hk; exact ⟨_, _, by decide, hpb6⟩)
  have hr67 := hr6.fr f7 fun k hk => by simp at hk; subst hk; exact .inr ⟨_, _, by decide, hpb6⟩
  have hT7 : Two w7 p q (putLast m' last body') (putN m' n) := ⟨putLast_len hT5.l4, hR7, hQ7⟩
  have hyp : ∀ k ∈ y.blks, k ∉ [p] := fun k hk hx => by
    simp at hx; subst hx
    exact hYO6.ne hpb6 (by decide) hk
  have hY7 : Byt w7 y (ds ++ [77]) := (hYO6.fr f7 hyp).cel
  have f57 : Fr [p, q] w5 w7 := (f6.trans f7).sub fun k hk _ => by simp at hk ⊢; exact hk.symm
  have f07 : Fr [p, q] w w7 := (f05.sub (T := [p, q]) fun k hk => absurd hk (by simp)).local_ f57 fun x hx => .inl hx
  have hB7 := hB5.fr f57 fun hx => by
    simp at hx
    rcases hx with h | h
    · exact hB5.ne_ hpb (by decide) h
    · exact hB5.ne_ hqb (by decide) h
  have hsz : w.heap.size ≤ w6.heap.size := Nat.le_trans f05.size f6.size
  refine ⟨_, _, rfl, fun x w' => x = true ∧ w7 = w', ⟨fun _ => call (same_c hr7.byt hr67.byt) ?_, fun h => by simp at h⟩, ?_⟩
  · rintro _ _ ⟨rfl, rfl⟩
    exact ⟨_, rfl, rfl, rfl⟩
  rintro _ _ ⟨rfl, rfl⟩
  refine ⟨fun x w' => x = true ∧ w7 = w', ⟨fun _ => call (count_c hR7) ?_, fun h => by simp at h⟩, ?_⟩
  · rintro _ _ ⟨rfl, rfl⟩
    refine ⟨_, rfl, call (rcount_c hQ7) ?_⟩
    rintro _ _ ⟨rfl, rfl⟩
    exact ⟨_, rfl, by simp, rfl⟩
  rintro _ _ ⟨rfl, rfl⟩
  refine ⟨fun x w' => x = true ∧ Fr [] w7 w', ⟨fun _ => ⟨data, hB7.cell2 rfl, ?_⟩, fun h => by simp at h⟩, ?_⟩
  · -- the lent bytes, anew: the caller's own must stand as they were
    have hd7 : Byt w7 data ds := hd5.frB f57 fun k hk => by
      simp at hk
      rcases hk with rfl | rfl
      · exact ⟨_, _, hpb, hpu⟩
      · exact ⟨_, _, hqb, hqu⟩
    refine call (lent_c hd7 hm) ?_
    rintro _ w8 ⟨y2, rfl, hY2⟩
    refine ⟨y2, rfl, call (same_c (hY7.fr0 hY2.fr) hY2.byt) ?_⟩
    rintro _ _ ⟨rfl, rfl⟩
    exact ⟨_, rfl, rfl, hY2.fr⟩
  · rintro _ w8 ⟨rfl, f8⟩
    refine Rt.ok ⟨s7, _, _, _, rfl, ((hr7.since hsz).fr f8 fun k hk => absurd hk (by simp)), ?_, f07.then_ f8, hT7.fr0 f8, ?_⟩
    · rw [hm2, hbody2]
      exact Nat.le_trans putOut_len (by omega)
    · unfold putN; split <;> omega

structure Upd where
  kind : Int
  key : ByteArray
  cnt : Int
  cli : Int
  fin : Bool
  has : Bool
  data : Slc
  ds : List UInt8
def Upd.cells (u : Upd) : List Value := [.int .i64 u.kind, .string u.key, .int .i64 u.cnt, .int .i64 u.cli, .bool u.fin, .bool u.has, u.data.v]
theorem Upd.flat (l : List Upd) : ∀ (k j : Nat) (h : k < l.length), j < 7 → (l.map Upd.cells).flatten[k * 7 + j]? = (l[k].cells)[j]? := by
  induction l with
  | nil => intro k j h; simp at h
  | cons u r ih =>
    intro k j h hj
    cases k with
    | zero => simp only [List.map_cons, List.flatten_cons, List.getElem_cons_zero]; rw [List.getElem?_append_left (by simp [Upd.cells]; omega)]; congr 1; omega
    | succ k =>
      simp only [List.map_cons, List.flatten_cons, List.getElem_cons_succ]
      rw [List.getElem?_append_right (by simp [Upd.cells]; omega), ← ih k j (by simpa using h) hj]
      congr 1
      simp [Upd.cells]; omega
theorem Upd.flat_len (l : List Upd) : (l.map Upd.cells).flatten.length = l.length * 7 := by
  induction l with
  | nil => rfl
  | cons u r ih => simp [Upd.cells] at ih ⊢; omega
structure Ups (w : World) (s : Slc) (l : List Upd) : Prop where
  cel : Cel w s 7 (l.map Upd.cells).flatten
  dat : ∀ u ∈ l, Byt w u.data u.ds ∧ u.ds.length ≤ 140737488355000
theorem Ups.len {w : World} {s : Slc} {l : List Upd} (h : Ups w s l) : s.l = l.length := by
  have := h.cel.len
  rw [Upd.flat_len] at this
  omega
theorem Ups.fr0 {w w' : World} {s : Slc} {l : List Upd} (h : Ups w s l) (f : Fr [] w w') : Ups w' s l := ⟨h.cel.fr0 f, fun u hu => ⟨(h.dat u hu).1.fr0 f, (h.dat u hu).2⟩⟩
theorem Ups.get {w : World} {s : Slc} {l : List Upd} (h : Ups w s l) {k : Nat} (hk : k < l.length) : ∃ p, s.a = some p ∧ ∀ (j : Nat) (v : Value), (l[k].cells)[j]? = some v → w.cell? ((p.add ((k : Int).toNat * 7)).add j) = some v := by
  have h0 : k * 7 + 0 < (l.map Upd.cells).flatten.length := by rw [Upd.flat_len]; omega
  obtain ⟨p, hp, _⟩ := h.cel.get h0
  refine ⟨p, hp, fun j v hv => ?_⟩
  have hj : j < 7 := (List.getElem?_eq_some_iff.1 hv).1
  rw [← Upd.flat l k j hk hj] at hv
  obtain ⟨q, hq, hc⟩ := h.cel.at_ _ _ hv
  rw [hp] at hq
  injection hq with hq
  subst hq
  rw [add_add, Int.toNat_natCast]
  exact hc
end Go.Proofs.YtnhgnfflihoaiaaGreatDoor
