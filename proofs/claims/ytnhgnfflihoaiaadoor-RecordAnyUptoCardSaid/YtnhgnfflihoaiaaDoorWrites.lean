/-
  The law RecordWrites holds of any head and any updates.
-/
import Derived.Test.YtnhgnfflihoaiaaDoorApart
namespace Go.Vc
open Go
theorem blks_cut (s : Slc) (size l k : Nat) : ∀ x ∈ (s.cut size l k).blks, x ∈ s.blks := by
  intro x hx
  unfold Slc.blks Slc.cut at hx
  unfold Slc.blks
  cases ha : s.a with
  | none => rw [ha] at hx; simp at hx
  | some p =>
    rw [ha] at hx
    simp only [Option.map_some] at hx
    split at hx
    · rename_i q hq
      split at hq
      · injection hq with hq; subst hq; simpa using hx
      · injection hq with hq; subst hq; rw [block_add] at hx; exact hx
    · simp at hx
theorem Byt.frB {S : List Nat} {w w' : World} {s : Slc} {bs : List UInt8} (h : Byt w s bs) (f : Fr S w w') (hS : ∀ k ∈ S, ∃ T cs, Blk w k T cs ∧ ∀ (i : Nat) (b : UInt8), cs[i]? ≠ some (u8v b)) : Byt w' s bs := by
  refine ⟨Cel.len h, h.cap, fun i v hv => ?_⟩
  obtain ⟨p, hp, hc⟩ := h.at_ i v hv
  refine ⟨p, hp, f.cell hc fun hx => ?_⟩
  obtain ⟨T, cs, hB, hne⟩ := hS _ hx
  simp only [List.getElem?_map, Option.map_eq_some_iff] at hv
  obtain ⟨b, _, rfl⟩ := hv
  unfold World.cell? at hc
  rw [hB] at hc
  simp only at hc
  split at hc
  · cases hc
  · exact hne _ b hc
end Go.Vc
namespace Go.Proofs.YtnhgnfflihoaiaaDoor
open Go Go.Vc

theorem fr_u8 {S : List Nat} {w : World} (h : ∀ k ∈ S, ∃ T cs, T ≠ Ty_uint8 ∧ Blk w k T cs) : ∀ b cs, Blk w b Ty_uint8 cs → b ∉ S := by
  intro b cs hb hx
  obtain ⟨T, ds, hT, hB⟩ := h b hx
  exact hb.ne_ hB (Ne.symm hT) rfl
theorem no_u8 {s : Slc} {n : Int} (i : Nat) (b : UInt8) : (#[s.v, .int .i64 n] : Array Value)[i]? ≠ some (u8v b) := by
  intro h
  rcases i with _ | _ | i
  · simp [Slc.v] at h
  · simp at h
  · simp at h
theorem RW.blk {w : World} {p : Nat} {last : List UInt8} {n : Int} (h : RW w p last n) : ∃ cs, Blk w p Ty_record_Writer cs ∧ ∀ (i : Nat) (b : UInt8), cs[i]? ≠ some (u8v b) := ⟨_, h.own.choose_spec.1, no_u8⟩
theorem QRW.blk {w : World} {p : Nat} {last : List UInt8} {n : Int} (h : QRW w p last n) : ∃ cs, Blk w p Ty_sherdref11_Writer cs ∧ ∀ (i : Nat) (b : UInt8), cs[i]? ≠ some (u8v b) := ⟨_, h.own.choose_spec.1, no_u8⟩
/-- Both writers stand alike. -/
structure Two (w : World) (p q : Nat) (last : List UInt8) (n : Nat) : Prop where
  l4 : last.length = 4
  rw : RW w p last (n : Int)
  qw : QRW w q last (n : Int)
theorem Two.fr0 {w w' : World} {p q : Nat} {last : List UInt8} {n : Nat} (h : Two w p q last n) (f : Fr [] w w') : Two w' p q last n := ⟨h.l4, h.rw.fr f (by simp) fun _ _ _ => by simp, h.qw.fr f (by simp) fun _ _ _ => by simp⟩
theorem Two.ne {w : World} {p q : Nat} {last : List UInt8} {n : Nat} (h : Two w p q last n) : p ≠ q := by
  obtain ⟨cs, h1, _⟩ := h.rw.blk
  obtain ⟨ds, h2, _⟩ := h.qw.blk
  exact h1.ne_ h2 (by decide)

/-- What a Put answers, and leaves. -/
def putOut (m : Int) (last body : List UInt8) : List UInt8 := if m = 0 then recPre body ++ recSum last body else []
def putLast (m : Int) (last body : List UInt8) : List UInt8 := if m = 0 then recSum last body else last
def putN (m : Int) (n : Nat) : Nat := if m = 0 then n + 1 else n
theorem putLast_len {m : Int} {last body : List UInt8} (h : last.length = 4) : (putLast m last body).length = 4 := by
  unfold putLast; split
  · exact le4_len _
  · exact h
theorem Row.nil (w w' : World) : Row w w' Slc.nil [] := ⟨Own.nil _ _ _, fun k hk => by simp [Slc.blks] at hk⟩
theorem putOut_len {kind : Int} {key : ByteArray} {cnt cli : Int} {fin has : Bool} {ds last : List UInt8} : (putOut (mayV kind key.size cnt cli fin has ds.length) last (bodyBs kind.toNat key cnt.toNat cli.toNat fin has ds)).length ≤ 66000 := by
  unfold putOut
  split
  · rename_i h
    obtain ⟨h1, h2, h3, h4, h5, h6⟩ := may_ok h
    have := bodyBs_len (kind := kind.toNat) (cnt := cnt.toNat) (cli := cli.toNat) (key := key) (fin := fin) (has := has) (ds := ds) (by rw [Int.toNat_of_nonneg (by omega), Int.toNat_of_nonneg (by omega), Int.toNat_of_nonneg (by omega)]; exact h)
    have h9 := uv_len9 (n := (bodyBs kind.toNat key cnt.toNat cli.toNat fin has ds).length) (by omega)
    simp [recPre, recSum, le4_len]
    omega
  · simp
section
variable {p q : Nat} {last : List UInt8} {n : Nat} {kind cnt cli : Int} {key : ByteArray} {fin has : Bool} {data : Slc} {ds : List UInt8} {w : World}
theorem put_u (hG : GT w) (hg : G_sum_steps ≠ p) (hR : RW w p last (n : Int)) (hl : last.length = 4) (hn : n < 9223372036854775807) (hd : Byt w data ds) :
    Calls PP F_record_Writer_Put #[.pointer (some (blk p)), .agg #[.int .i64 kind, .string key, .int .i64 cnt, .int .i64 cli, .bool fin, .bool has, data.v]] w (Rt fun v w' =>
      ∃ (m : Int) (body : List UInt8) (s : Slc), m = mayV kind key.size cnt cli fin has ds.length ∧ body = bodyBs kind.toNat key cnt.toNat cli.toNat fin has ds ∧ v = .tuple #[Slc.v s, .int .i64 m] ∧ Row w w' s (putOut m last body) ∧ Fr [p] w w' ∧ RW w' p (putLast m last body) (putN m n : Nat)) := by
  refine Rt.mono (put_c hG hg hR hl hn hd) ?_
  rintro _ w' (⟨h, rfl, f⟩ | ⟨h, s, body, rfl, rfl, hr, f, hW⟩)
  · refine ⟨_, _, Slc.nil, rfl, rfl, rfl, ?_, f.sub fun k hk => absurd hk (by simp), ?_⟩
    · rw [putOut, if_neg h]; exact Row.nil _ _
    · rw [putLast, putN, if_neg h, if_neg h]; exact hR.fr f (by simp) fun _ _ _ => by simp
  · refine ⟨_, _, s, rfl, rfl, by rw [h], ?_, f, ?_⟩
    · rw [putOut, if_pos h]; exact hr
    · rw [putLast, putN, if_pos h, if_pos h]; exact hW
theorem rput_u (hR : QRW w q last (n : Int)) (hl : last.length = 4) (hn : n < 9223372036854775807) (hd : Byt w data ds) :
    Calls PP F_sherdref11_Writer_Put #[.pointer (some (blk q)), .agg #[.int .i64 kind, .string key, .int .i64 cnt, .int .i64 cli, .bool fin, .bool has, data.v]] w (Rt fun v w' =>
      ∃ (m : Int) (body : List UInt8) (s : Slc), m = mayV kind key.size cnt cli fin has ds.length ∧ body = bodyBs kind.toNat key cnt.toNat cli.toNat fin has ds ∧ v = .tuple #[Slc.v s, .int .i64 m] ∧ Row w w' s (putOut m last body) ∧ Fr [q] w w' ∧ QRW w' q (putLast m last body) (putN m n : Nat)) := by
  refine Rt.mono (rput_c hR hl hn hd) ?_
  rintro _ w' (⟨h, rfl, f⟩ | ⟨h, s, body, rfl, rfl, hr, f, hW⟩)
  · refine ⟨_, _, Slc.nil, rfl, rfl, rfl, ?_, f.sub fun k hk => absurd hk (by simp), ?_⟩
    · rw [putOut, if_neg h]; exact Row.nil _ _
    · rw [putLast, putN, if_neg h, if_neg h]; exact hR.fr f (by simp) fun _ _ _ => by simp
  · refine ⟨_, _, s, rfl, rfl, by rw [h], ?_, f, ?_⟩
    · rw [putOut, if_pos h]; exact hr
    · rw [putLast, putN, if_pos h, if_pos h]; exact hW
end
theorem Row.fr {S : List Nat} {w0 w w' : World} {s : Slc} {bs : List UInt8} (h : Row w0 w s bs) (f : Fr S w w') (hS : ∀ k ∈ S, k < w0.heap.size ∨ ∃ T cs, T ≠ Ty_uint8 ∧ Blk w k T cs) : Row w0 w' s bs := by
  refine ⟨h.own.fr f fun k hk hx => ?_, h.new⟩
  rcases hS k hx with h1 | ⟨T, cs, h1, h2⟩
  · have := h.new k hk; omega
  · exact h.own.ne h2 (Ne.symm h1) hk
theorem Row.since {w0 w1 w : World} {s : Slc} {bs : List UInt8} (h : Row w1 w s bs) (hs : w0.heap.size ≤ w1.heap.size) : Row w0 w s bs := ⟨h.own, fun k hk => Nat.le_trans hs (h.new k hk)⟩

theorem putting_c {p q : Nat} {last : List UInt8} {n : Nat} {kind cnt cli : Int} {key : ByteArray} {fin has : Bool} {data : Slc} {ds : List UInt8} {w : World} (hG : GT w) (hg1 : G_sum_steps ≠ p) (hg2 : G_sum_steps ≠ q) (hT : Two w p q last n) (hn : n < 9223372036854775807) (hd : Byt w data ds) (hm : ds.length ≤ 140737488355000) :
    Calls PP F_sherdlaw11_putting #[.pointer (some (blk p)), .pointer (some (blk q)), .agg #[.int .i64 kind, .string key, .int .i64 cnt, .int .i64 cli, .bool fin, .bool has, data.v]] w (Rt fun v w' =>
      ∃ s bs last' n', v = .tuple #[Slc.v s, .bool true] ∧ Row w w' s bs ∧ bs.length ≤ 4398046511104 ∧ Fr [p, q] w w' ∧ Two w' p q last' n' ∧ n' ≤ n + 1) := by
  have hdl := hd.len
  refine sim_sherdlaw11_putting _ _ _ _ _ _ _ _ _ _ _ ?_
  unfold vc_sherdlaw11_putting
  refine New.intro fun b w1 nb => call (lent_c (hd.fr0 nb.fr) hm) ?_
  rintro _ w2 ⟨y, rfl, hY⟩
  have f02 := nb.fr.then_ hY.fr
  have hB2 := nb.blk.fr hY.fr (by simp)
  have hyl := hY.byt.len
  simp at hyl
  have hyc := hY.byt.cap
  refine ⟨y, rfl, _, hB2.cell rfl, _, hB2.cell rfl, _, hB2.cell rfl, _, hB2.cell rfl, _, hB2.cell rfl, _, hB2.cell rfl, _, hB2.cell rfl, ?_⟩
  refine New.intro fun u w3 nu => nu.blk.stoAll rfl fun w4 hU fU => ?_
  have f24 := nu.frS fU
  have f04 := f02.then_ f24
  have hB4 := hB2.fr f24 (by simp)
  refine ⟨data, hB4.cell2 rfl, by omega, by omega, by omega, ?_⟩
  have hY4 := hY.more f24
  refine hU.sto2 (lt_ rfl) fun w5 hU5 fU5 => ?_
  have f25 : Fr [] w2 w5 := f24.local_ fU5 fun x hx => .inr (by simp at hx; rw [hx, nu.at_]; exact Nat.le_refl _)
  have f05 := f02.then_ f25
  have hB5 := hB2.fr f25 (by simp)
  have hY5 := hY.more f25
  have hd5 := hd.fr0 f05
  refine ⟨_, hB5.cell rfl, _, hB5.cell rfl, _, hB5.cell rfl, _, hB5.cell rfl, _, hB5.cell rfl, _, hB5.cell rfl, _, hB5.cell rfl, ?_⟩
  have hT5 := hT.fr0 f05
  have hG5 := hG.fr0 f05
  have hcut : ∀ {w' : World}, Byt w' y (ds ++ [77]) → Byt w' (y.cut 1 (0 : Int).toNat (data.l : Int).toNat) ds := fun h => by
    refine cut_all h (by simp) (by simp [hdl]) ?_
    simp [hdl]
  refine call (rput_u hT5.qw hT5.l4 hn hd5) ?_
  rintro _ w6 ⟨m, body, s6, hm', hbody, rfl, hr6, f6, hQ6⟩
  obtain ⟨qcs, hqb, hqu⟩ := hT5.qw.blk
  obtain ⟨pcs, hpb, hpu⟩ := hT5.rw.blk
  have hpq := hT5.ne
  have hU6 := hU5.fr f6 (by simp only [List.mem_singleton]; exact hU5.ne_ hqb (by decide))
  refine ⟨_, _, rfl, _, hU6.cell rfl, _, hU6.cell rfl, _, hU6.cell rfl, _, hU6.cell rfl, _, hU6.cell rfl, _, hU6.cell rfl, y.cut 1 (0 : Int).toNat (data.l : Int).toNat, hU6.cell rfl, ?_⟩
  have hyq : ∀ k ∈ y.blks, k ∉ [q] := fun k hk hx => by
    simp at hx; subst hx
    exact hY5.own.ne hqb (by decide) hk
  have hYO6 := hY5.own.fr f6 hyq
  have hY6 : Byt w6 y (ds ++ [77]) := hYO6.cel
  have hG6 := hG5.fr f6 (by simp only [List.mem_singleton]; exact hg2)
  have hR6 := hT5.rw.fr f6 (by simp only [List.mem_singleton]; exact hpq) (fr_u8 fun k hk => by simp at hk; subst hk; exact ⟨_, _, by decide, hqb⟩)
  refine call (put_u hG6 hg1 hR6 hT5.l4 hn (hcut hY6)) ?_
  rintro _ w7 ⟨m', body', s7, hm2, hbody2, rfl, hr7, f7, hR7⟩
  have em : m' = m := by rw [hm2, hm']
  have eb : body' = body := by rw [hbody2, hbody]
  subst em eb
  have hpb6 := hpb.fr f6 (by simp only [List.mem_singleton]; exact hpq)
  obtain ⟨qcs6, hqb6, _⟩ := hQ6.blk
  have hQ7 := hQ6.fr f7 (by simp only [List.mem_singleton]; exact Ne.symm hpq) (fr_u8 fun k hk => by simp at hk; subst hk; exact ⟨_, _, by decide, hpb6⟩)
  have hr67 := hr6.fr f7 fun k hk => by simp at hk; subst hk; exact .inr ⟨_, _, by decide, hpb6⟩
  have hT7 : Two w7 p q (putLast m' last body') (putN m' n) := ⟨putLast_len hT5.l4, hR7, hQ7⟩
  have hyp : ∀ k ∈ y.blks, k ∉ [p] := fun k hk hx => by
    simp at hx; subst hx
    exact hYO6.ne hpb6 (by decide) hk
  have hY7 : Byt w7 y (ds ++ [77]) := (hYO6.fr f7 hyp).cel
  have f57 : Fr [p, q] w5 w7 := (f6.trans f7).sub fun k hk _ => by simp at hk ⊢; exact hk.symm
  have f07 : Fr [p, q] w w7 := (f05.sub (T := [p, q]) fun k hk => absurd hk (by simp)).local_ f57 fun x hx => .inl hx
  have hB7 := hB5.fr f57 fun hx => by
    simp at hx
    rcases hx with h | h
    · exact hB5.ne_ hpb (by decide) h
    · exact hB5.ne_ hqb (by decide) h
  have hsz : w.heap.size ≤ w6.heap.size := Nat.le_trans f05.size f6.size
  refine ⟨_, _, rfl, fun x w' => x = true ∧ w7 = w', ⟨fun _ => call (same_c hr7.byt hr67.byt) ?_, fun h => by simp at h⟩, ?_⟩
  · rintro _ _ ⟨rfl, rfl⟩
    exact ⟨_, rfl, rfl, rfl⟩
  rintro _ _ ⟨rfl, rfl⟩
  refine ⟨fun x w' => x = true ∧ w7 = w', ⟨fun _ => call (count_c hR7) ?_, fun h => by simp at h⟩, ?_⟩
  · rintro _ _ ⟨rfl, rfl⟩
    refine ⟨_, rfl, call (rcount_c hQ7) ?_⟩
    rintro _ _ ⟨rfl, rfl⟩
    exact ⟨_, rfl, by simp, rfl⟩
  rintro _ _ ⟨rfl, rfl⟩
  refine ⟨fun x w' => x = true ∧ Fr [] w7 w', ⟨fun _ => ⟨data, hB7.cell2 rfl, ?_⟩, fun h => by simp at h⟩, ?_⟩
  · -- the lent bytes, anew: the caller's own must stand as they were
    have hd7 : Byt w7 data ds := hd5.frB f57 fun k hk => by
      simp at hk
      rcases hk with rfl | rfl
      · exact ⟨_, _, hpb, hpu⟩
      · exact ⟨_, _, hqb, hqu⟩
    refine call (lent_c hd7 hm) ?_
    rintro _ w8 ⟨y2, rfl, hY2⟩
    refine ⟨y2, rfl, call (same_c (hY7.fr0 hY2.fr) hY2.byt) ?_⟩
    rintro _ _ ⟨rfl, rfl⟩
    exact ⟨_, rfl, rfl, hY2.fr⟩
  · rintro _ w8 ⟨rfl, f8⟩
    refine Rt.ok ⟨s7, _, _, _, rfl, ((hr7.since hsz).fr f8 fun k hk => absurd hk (by simp)), ?_, f07.then_ f8, hT7.fr0 f8, ?_⟩
    · rw [hm2, hbody2]
      exact Nat.le_trans putOut_len (by omega)
    · unfold putN; split <;> omega

/-- An update, and the bytes that its data reads. -/
structure Upd where
  kind : Int
  key : ByteArray
  cnt : Int
  cli : Int
  fin : Bool
  has : Bool
  data : Slc
  ds : List UInt8
def Upd.cells (u : Upd) : List Value := [.int .i64 u.kind, .string u.key, .int .i64 u.cnt, .int .i64 u.cli, .bool u.fin, .bool u.has, u.data.v]
theorem Upd.flat (l : List Upd) : ∀ (k j : Nat) (h : k < l.length), j < 7 → (l.map Upd.cells).flatten[k * 7 + j]? = (l[k].cells)[j]? := by
  induction l with
  | nil => intro k j h; simp at h
  | cons u r ih =>
    intro k j h hj
    cases k with
    | zero => simp only [List.map_cons, List.flatten_cons, List.getElem_cons_zero]; rw [List.getElem?_append_left (by simp [Upd.cells]; omega)]; congr 1; omega
    | succ k =>
      simp only [List.map_cons, List.flatten_cons, List.getElem_cons_succ]
      rw [List.getElem?_append_right (by simp [Upd.cells]; omega), ← ih k j (by simpa using h) hj]
      congr 1
      simp [Upd.cells]; omega
theorem Upd.flat_len (l : List Upd) : (l.map Upd.cells).flatten.length = l.length * 7 := by
  induction l with
  | nil => rfl
  | cons u r ih => simp [Upd.cells] at ih ⊢; omega
/-- A slice of updates. -/
structure Ups (w : World) (s : Slc) (l : List Upd) : Prop where
  cel : Cel w s 7 (l.map Upd.cells).flatten
  dat : ∀ u ∈ l, Byt w u.data u.ds ∧ u.ds.length ≤ 140737488355000
theorem Ups.len {w : World} {s : Slc} {l : List Upd} (h : Ups w s l) : s.l = l.length := by
  have := h.cel.len
  rw [Upd.flat_len] at this
  omega
theorem Ups.fr0 {w w' : World} {s : Slc} {l : List Upd} (h : Ups w s l) (f : Fr [] w w') : Ups w' s l := ⟨h.cel.fr0 f, fun u hu => ⟨(h.dat u hu).1.fr0 f, (h.dat u hu).2⟩⟩
theorem Ups.get {w : World} {s : Slc} {l : List Upd} (h : Ups w s l) {k : Nat} (hk : k < l.length) : ∃ p, s.a = some p ∧ ∀ (j : Nat) (v : Value), (l[k].cells)[j]? = some v → w.cell? ((p.add ((k : Int).toNat * 7)).add j) = some v := by
  have h0 : k * 7 + 0 < (l.map Upd.cells).flatten.length := by rw [Upd.flat_len]; omega
  obtain ⟨p, hp, _⟩ := h.cel.get h0
  refine ⟨p, hp, fun j v hv => ?_⟩
  have hj : j < 7 := (List.getElem?_eq_some_iff.1 hv).1
  rw [← Upd.flat l k j hk hj] at hv
  obtain ⟨q, hq, hc⟩ := h.cel.at_ _ _ hv
  rw [hp] at hq
  injection hq with hq
  subst hq
  rw [add_add, Int.toNat_natCast]
  exact hc

theorem recordWrites_c {n k d s : Int} {us : Slc} {l : List Upd} {w : World} (hG : GT w) (hU : Ups w us l) (hN : l.length ≤ 4398046510000) :
    Calls PP F_sherdlaw11_RecordWrites #[.agg #[.int .i64 n, .int .i64 k, .int .i64 d, .int .i64 s], us.v] w (Rt fun v w' => v = .bool true ∧ Fr [] w w') := by
  have hul := hU.len
  refine sim_sherdlaw11_RecordWrites _ _ _ _ _ _ _ ?_
  unfold vc_sherdlaw11_RecordWrites
  refine New.intro fun b w1 nb => call rnew_c ?_
  rintro _ w2 ⟨f2, h2⟩
  have hB := nb.blk.fr f2 (by simp)
  have f02 := nb.fr.then_ f2
  rcases h2 with ⟨hm, rfl⟩ | ⟨hm, q, z, rfl, hz, hq, hQ⟩
  · -- the head isn't taken
    refine ⟨none, Slc.nil, _, rfl, _, hB.cell rfl, _, hB.cell rfl, _, hB.cell rfl, _, hB.cell rfl, call (new_c (hG.fr0 f02)) ?_⟩
    rintro _ w3 ⟨f3, h3⟩
    rcases h3 with ⟨_, rfl⟩ | ⟨hm', _⟩
    · refine ⟨none, Slc.nil, _, rfl, fun x w' => x = false ∧ w3 = w', ⟨fun _ => call (same_c (xs := []) (Cel.nil _ _) (Cel.nil _ _)) ?_, fun h => by simp at h⟩, ?_⟩
      · rintro _ _ ⟨rfl, rfl⟩
        exact ⟨_, rfl, rfl, rfl⟩
      · rintro _ _ ⟨rfl, rfl⟩
        refine ⟨fun h => by simp at h, fun _ => ⟨fun _ => call (silent_c _) ?_, fun h => by simp at h⟩⟩
        rintro _ w4 ⟨rfl, f4⟩
        exact ⟨_, rfl, Rt.ok ⟨rfl, (f02.then_ f3).then_ f4⟩⟩
    · exact absurd hm' hm
  · refine ⟨some (blk q), z, _, rfl, _, hB.cell rfl, _, hB.cell rfl, _, hB.cell rfl, _, hB.cell rfl, call (new_c (hG.fr0 f02)) ?_⟩
    rintro _ w3 ⟨f3, h3⟩
    rcases h3 with ⟨hm', _⟩ | ⟨_, p, y, rfl, hy, hp, hR⟩
    · exact absurd hm hm'
    · have hz3 := hz.own.fr0 f3
      have f03 := f02.then_ f3
      refine ⟨some (blk p), y, _, rfl, fun x w' => x = false ∧ w3 = w', ⟨fun _ => call (same_c hy.byt (show Byt w3 z _ from hz3.cel)) ?_, fun h => by simp at h⟩, ?_⟩
      · rintro _ _ ⟨rfl, rfl⟩
        exact ⟨_, rfl, rfl, rfl⟩
      rintro _ _ ⟨rfl, rfl⟩
      refine ⟨fun h => by simp at h, fun _ => ⟨fun h => by simp at h, fun _ => New.intro fun b4 w4 nb4 => ?_⟩⟩
      have hQ3 := hQ.fr f3 (by simp) fun _ _ _ => by simp
      have hT3 : Two w3 p q (le4 (crc (headPre n.toNat k.toNat d.toNat s.toNat))) 0 := ⟨le4_len _, hR, hQ3⟩
      have hpn : w.heap.size ≤ p := Nat.le_trans f02.size hp
      have hqn : w.heap.size ≤ q := Nat.le_trans nb.fr.size hq
      have hGp := hG.pos
      obtain ⟨h1, h2, h3, h4, h5, h6, h7⟩ := mayHead_ok hm
      have hyl : (headBs n.toNat k.toNat d.toNat s.toNat).length ≤ 4398046511104 := by
        have := headPre_len (n := n.toNat) (k := k.toNat) (d := d.toNat) (s := s.toNat) (by omega) (by omega) (by omega) (by omega)
        simp [headBs, le4_len]; omega
      refine ⟨fun all i w' => ∃ (j : Nat) (ss : List Slc) (last : List UInt8) (m : Nat), i = (j : Int) ∧ j ≤ l.length ∧ ss.length = j + 1 ∧ m ≤ j ∧ Fr [] w w' ∧ Two w' p q last m ∧
          Own Ty_sl_uint8 1 w' all (ss.map Slc.v) ∧ (∀ t (h : t < ss.length), ∃ bs : List UInt8, Own Ty_uint8 1 w' ss[t] (bs.map u8v)) ∧ Apt ss ∧ (∀ x ∈ ss, x.l ≤ 4398046511104) ∧ (∀ y ∈ all.blks, w.heap.size ≤ y) ∧ (∀ x ∈ ss, ∀ y ∈ x.blks, w.heap.size ≤ y), fun _ i _ => l.length - i.toNat,
        ⟨0, [y], _, 0, rfl, by omega, rfl, by omega, f03.then_ nb4.fr, hT3.fr0 nb4.fr, Own.made nb4.blk rfl (by decide), fun t ht => ?_, fun i j hi hj hne => ?_, fun x hx => ?_, fun x hx => ?_, fun x hx => ?_⟩, ?_⟩
      · obtain rfl : t = 0 := by simp at ht; omega
        exact ⟨_, hy.own.fr0 nb4.fr⟩
      · simp at hi hj; omega
      · simp at hx; subst hx
        rw [hy.byt.len]; exact hyl
      · simp [Slc.blks] at hx
        subst hx
        rw [nb4.at_]; exact f03.size
      · simp at hx; subst hx
        exact fun z hz => Nat.le_trans f02.size (hy.new z hz)
      rintro all _ w5 ⟨j, ss, last, m, rfl, hj, hsl, hmj, f05, hT, hA, hrow, hapt, hlen, han, hnew⟩
      refine ⟨fun hlt => ?_, fun hge => ?_⟩
      · simp only [decide_eq_true_eq, hul] at hlt
        have hj' : j < l.length := by omega
        have hU5 := hU.fr0 f05
        obtain ⟨a, ha, hcell⟩ := hU5.get hj'
        refine ⟨a, ha, by omega, by omega, _, hcell 0 _ rfl, _, hcell 1 _ rfl, _, hcell 2 _ rfl, _, hcell 3 _ rfl, _, hcell 4 _ rfl, _, hcell 5 _ rfl, l[j].data, hcell 6 _ rfl, ?_⟩
        obtain ⟨hd1, hd2⟩ := hU5.dat l[j] (List.getElem_mem _)
        refine call (putting_c (hG.fr0 f05) (by omega) (by omega) hT (by omega) hd1 hd2) ?_
        rintro _ w6 ⟨s6, bs6, last6, m6, rfl, hr6, hb6, f6, hT6, hm6⟩
        refine ⟨s6, true, rfl, fun h => by simp at h, fun _ => New.intro fun b7 w7 nb7 => ?_⟩
        have f7 := nb7.fr
        obtain ⟨pcs, hpb, _⟩ := hT.rw.blk
        obtain ⟨qcs, hqb, _⟩ := hT.qw.blk
        have hX : ∀ {T' size' : Nat} {x : Slc} {cs : List Value}, T' ≠ Ty_record_Writer → T' ≠ Ty_sherdref11_Writer → Own T' size' w5 x cs → ∀ y ∈ x.blks, y ∉ [p, q] := fun h1 h2 h y hy hx => by
          simp at hx
          rcases hx with rfl | rfl
          · exact h.ne hpb h1 hy
          · exact h.ne hqb h2 hy
        have hA7 := (hA.fr f6 (hX (by decide) (by decide) hA)).fr0 f7
        have hal : all.l = j + 1 := by have := hA.cel.len; simp at this; omega
        have hY : Cel w7 (Slc.mk (some (blk b7)) 1 1) 1 [s6.v] := Cel.block (l := [s6.v]) nb7.blk rfl (by simp) (Nat.le_refl _)
        have f07 : Fr [] w w7 := (f05.local_ f6 fun x hx => .inr (by simp at hx; rcases hx with rfl | rfl <;> assumption)).then_ f7
        have hs6 : Own Ty_uint8 1 w7 s6 (bs6.map u8v) := hr6.own.fr0 f7
        have hrow7 : ∀ t (h : t < ss.length), ∃ bs : List UInt8, Own Ty_uint8 1 w7 ss[t] (bs.map u8v) := fun t ht => by
          obtain ⟨bs, h⟩ := hrow t ht
          exact ⟨bs, (h.fr f6 (hX (by decide) (by decide) h)).fr0 f7⟩
        have hT7 := hT6.fr0 f7
        refine App.own2 slT_sl_sl_uint8 hA7 hY Nat.one_pos (by intro u hu; simp at hu; subst hu; rfl) (by unfold maxLen; simp only; omega) (by simp only; omega) fun m' w8 hA8 hl8 hcase => ?_
        rw [wr64 (by omega) (by omega)]
        obtain ⟨S, f8, hS, hmn⟩ : ∃ S, Fr S w7 w8 ∧ (∀ x ∈ S, x ∈ all.blks) ∧ ∀ y ∈ m'.blks, w.heap.size ≤ y := by
          rcases hcase with ⟨f, h1, _⟩ | ⟨f, h1⟩
          · exact ⟨_, f, fun x h => h, by rw [blks_a h1]; exact han⟩
          · exact ⟨[], f, by simp, fun y hy => by rw [h1] at hy; simp at hy; rw [hy]; exact f07.size⟩
        obtain ⟨pcs7, hpb7, _⟩ := hT7.rw.blk
        obtain ⟨qcs7, hqb7, _⟩ := hT7.qw.blk
        have hu8 : ∀ b cs, Blk w7 b Ty_uint8 cs → b ∉ S := fun b cs hb hx => hA7.ne hb (by decide) (hS b hx)
        have hT8 : Two w8 p q last6 m6 := ⟨hT7.l4, hT7.rw.fr f8 (fun hx => hA7.ne hpb7 (by decide) (hS p hx)) hu8, hT7.qw.fr f8 (fun hx => hA7.ne hqb7 (by decide) (hS q hx)) hu8⟩
        have hO8 : ∀ {x : Slc} {cs : List Value}, Own Ty_uint8 1 w7 x cs → Own Ty_uint8 1 w8 x cs := fun h => h.fr f8 fun y hy hx => h.apart hA7 (by decide) y hy (hS y hx)
        refine ⟨⟨j + 1, ss ++ [s6], last6, m6, rfl, by omega, by simp [hsl], by omega, f07.local_ f8 fun x hx => .inr (han x (hS x hx)), hT8, by simpa using hA8, fun t ht => ?_, fun t u ht hu hne => ?_, fun x hx => ?_, hmn, fun x hx => ?_⟩, by dsimp only; omega⟩
        · by_cases h : t < ss.length
          · rw [List.getElem_append_left h]
            obtain ⟨bs, h1⟩ := hrow7 t h
            exact ⟨bs, hO8 h1⟩
          · rw [List.getElem_append_right (by omega)]
            exact ⟨bs6, by simpa using hO8 hs6⟩
        · have hold : ∀ v (h : v < ss.length), ∀ y ∈ (ss[v]).blks, y < w5.heap.size := fun v h => by
            obtain ⟨bs, h1⟩ := hrow v h
            exact h1.lt
          simp at ht hu
          by_cases h : t < ss.length
          · by_cases h' : u < ss.length
            · rw [List.getElem_append_left h, List.getElem_append_left h']
              exact hapt t u h h' hne
            · rw [List.getElem_append_left h, List.getElem_append_right (by omega)]
              intro y hy hy'
              have := hold t h y hy
              have := hr6.new y (by simpa using hy')
              omega
          · by_cases h' : u < ss.length
            · rw [List.getElem_append_right (by omega), List.getElem_append_left h']
              intro y hy hy'
              have := hold u h' y hy'
              have := hr6.new y (by simpa using hy)
              omega
            · omega
        · rcases List.mem_append.1 hx with h | h
          · exact hlen x h
          · simp at h; subst h
            rw [hr6.byt.len]; exact hb6
        · rcases List.mem_append.1 hx with h | h
          · exact hnew x h
          · simp at h; subst h
            exact fun y hy => Nat.le_trans f05.size (hr6.new y hy)
      · simp only [decide_eq_false_iff_not, hul] at hge
        refine call (apart_c hA ⟨fun t ht => ?_⟩ hapt (by omega) hlen f05 hnew) ?_
        · obtain ⟨bs, h⟩ := hrow t ht
          exact ⟨bs, h, fun h => by omega⟩
        rintro _ w6 ⟨rfl, f6⟩
        refine ⟨true, rfl, fun x w' => x = true ∧ Fr [] w w', ⟨fun _ => call (silent_c _) ?_, fun h => by simp at h⟩, ?_⟩
        · rintro _ w7 ⟨rfl, f7⟩
          exact ⟨_, rfl, rfl, f6.then_ f7⟩
        · rintro _ w7 ⟨rfl, f7⟩
          exact Rt.ok ⟨rfl, f7⟩
end Go.Proofs.YtnhgnfflihoaiaaDoor
