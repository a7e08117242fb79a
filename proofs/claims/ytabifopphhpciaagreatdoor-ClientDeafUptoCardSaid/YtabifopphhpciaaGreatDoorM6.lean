/-
  DERIVED: THE SHELF's CONTRACTS AT THIS DUMP, IN PLAIN WORDS (tools/lay-plain.mjs out of 'YtabifopphhpciaaGreatDoorSortInt.lean', which tools/lay-shelf.mjs wrote): THE SAME DECLARATIONS UNDER THE SAME NAMES: 'import', 'namespace', 'open', 'def', 'theorem' AND NOTHING ELSE: no command of the shelf's: FOR A HAND-IN. Each laying: the table of numbers ('.._ren') and one theorem, a field a fact of the dump's own or the kernel's comparison; each contract: ONE APPLICATION.
-/
import Derived.Shelf.Sort.Plain
import Derived.Shelf.Slices.In.SortNone
import Derived.Ground.NamesProg
import Derived.Test.YtabifopphhpciaaGreatDoorProg
import Derived.Shelf.SlMaps.Clone
import Derived.Shelf.SlGeneric
import Derived.Ground.SlmcProg
import Derived.Test.YtabifopphhpciaaGreatDoorM5
import Derived.Test.YtabifopphhpciaaGreatDoorM1
import Derived.Laws.MakeOwn
import Derived.Laws.CopyRow
import Derived.Laws.IdiomCopy
namespace Go.Proofs
open Go.Shelf
def Tryz.sortInt_ren : Go.Shelf.Ren := ⟨fun | 189 => 47 | 125 => 84 | 257 => 83 | 128 => 122 | 129 => 123 | 294 => 113 | 295 => 114 | 296 => 115 | 297 => 116 | 298 => 117 | 299 => 118 | 216 => 119 | 300 => 120 | 301 => 121 | 328 => 148 | 329 => 149 | 330 => 150 | 331 => 151 | 332 => 152 | 215 => 92 | 343 => 166 | n => n, fun | 28 => 23 | 3 => 3 | 46 => 163 | 0 => 0 | 51 => 210 | 53 => 212 | 4 => 4 | 183 => 202 | 182 => 201 | 131 => 207 | 5 => 5 | 9 => 9 | 218 => 235 | 222 => 239 | 228 => 254 | 229 => 255 | n => n, fun | n => n⟩
theorem Tryz.sortInt : Go.Proofs.Lays.n189 Tryz.prog Tryz.sortInt_ren := {
  mixed := by kernel_rfl
  f125 := Tryz.func84.trans (congrArg some (by kernel_rfl))
  f128 := Tryz.func122.trans (congrArg some (by kernel_rfl))
  f129 := Tryz.func123.trans (congrArg some (by kernel_rfl))
  f189 := Tryz.func47.trans (congrArg some (by kernel_rfl))
  f215 := Tryz.func92.trans (congrArg some (by kernel_rfl))
  f216 := Tryz.func119.trans (congrArg some (by kernel_rfl))
  f257 := Tryz.func83.trans (congrArg some (by kernel_rfl))
  f294 := Tryz.func113.trans (congrArg some (by kernel_rfl))
  f295 := Tryz.func114.trans (congrArg some (by kernel_rfl))
  f296 := Tryz.func115.trans (congrArg some (by kernel_rfl))
  f297 := Tryz.func116.trans (congrArg some (by kernel_rfl))
  f298 := Tryz.func117.trans (congrArg some (by kernel_rfl))
  f299 := Tryz.func118.trans (congrArg some (by kernel_rfl))
  f300 := Tryz.func120.trans (congrArg some (by kernel_rfl))
  f301 := Tryz.func121.trans (congrArg some (by kernel_rfl))
  f328 := Tryz.func148.trans (congrArg some (by kernel_rfl))
  f329 := Tryz.func149.trans (congrArg some (by kernel_rfl))
  f330 := Tryz.func150.trans (congrArg some (by kernel_rfl))
  f331 := Tryz.func151.trans (congrArg some (by kernel_rfl))
  f332 := Tryz.func152.trans (congrArg some (by kernel_rfl))
  f343 := Tryz.func166.trans (congrArg some (by kernel_rfl))
  t0 := Tryz.underlying0
  a0 := Tryz.isAgg0
  z0 := Tryz.sizeOf0
  v0 := Tryz.zeroValue0
  t3 := Tryz.underlying3
  a3 := Tryz.isAgg3
  z3 := Tryz.sizeOf3
  v3 := Tryz.zeroValue3
  t4 := Tryz.underlying4
  a4 := Tryz.isAgg4
  z4 := Tryz.sizeOf4
  v4 := Tryz.zeroValue4
  t5 := Tryz.underlying5
  a5 := Tryz.isAgg5
  z5 := Tryz.sizeOf5
  v5 := Tryz.zeroValue5
  t9 := Tryz.underlying9
  a9 := Tryz.isAgg9
  z9 := Tryz.sizeOf9
  v9 := Tryz.zeroValue9
  t28 := Tryz.underlying23
  a28 := Tryz.isAgg23
  z28 := Tryz.sizeOf23
  v28 := Tryz.zeroValue23
  t46 := Tryz.underlying163
  a46 := Tryz.isAgg163
  z46 := Tryz.sizeOf163
  v46 := Tryz.zeroValue163
  t51 := Tryz.underlying210
  a51 := Tryz.isAgg210
  z51 := Tryz.sizeOf210
  v51 := Tryz.zeroValue210
  t53 := Tryz.underlying212
  a53 := Tryz.isAgg212
  z53 := Tryz.sizeOf212
  v53 := Tryz.zeroValue212
  t131 := Tryz.underlying207
  a131 := Tryz.isAgg207
  z131 := Tryz.sizeOf207
  v131 := Tryz.zeroValue207
  t182 := Tryz.underlying201
  a182 := Tryz.isAgg201
  z182 := Tryz.sizeOf201
  v182 := Tryz.zeroValue201
  t183 := Tryz.underlying202
  a183 := Tryz.isAgg202
  z183 := Tryz.sizeOf202
  v183 := Tryz.zeroValue202
  t218 := Tryz.underlying235
  a218 := Tryz.isAgg235
  z218 := Tryz.sizeOf235
  v218 := Tryz.zeroValue235
  t222 := Tryz.underlying239
  a222 := Tryz.isAgg239
  z222 := Tryz.sizeOf239
  v222 := Tryz.zeroValue239
  t228 := Tryz.underlying254
  a228 := Tryz.isAgg254
  z228 := Tryz.sizeOf254
  v228 := Tryz.zeroValue254
  t229 := Tryz.underlying255
  a229 := Tryz.isAgg255
  z229 := Tryz.sizeOf255
  v229 := Tryz.zeroValue255 }
end Go.Proofs

namespace Go.Proofs
open Go.Shelf
def Tryz.cloneRep_ren : Go.Shelf.Ren := ⟨fun | 5 => 82 | 7 => 93 | n => n, fun | 23 => 164 | 25 => 3 | 3 => 119 | 4 => 4 | 20 => 20 | n => n, fun | n => n⟩
theorem Tryz.cloneRep : Go.Proofs.SlLaysW.n5 Tryz.prog Tryz.cloneRep_ren := {
  mixed := by kernel_rfl
  f5 := ⟨Tryz.f82.name, by decide, Tryz.func82.trans (congrArg some (by kernel_rfl))⟩
  f7 := Tryz.func93.trans (congrArg some (by kernel_rfl))
  t4 := Tryz.underlying4
  a4 := Tryz.isAgg4
  z4 := Tryz.sizeOf4
  v4 := Tryz.zeroValue4
  t20 := Tryz.underlying20
  a20 := Tryz.isAgg20
  z20 := Tryz.sizeOf20
  v20 := Tryz.zeroValue20
  t23 := Tryz.underlying164
  a23 := Tryz.isAgg164
  z23 := Tryz.sizeOf164
  v23 := Tryz.zeroValue164 }
end Go.Proofs

namespace Go.Vc
structure Rp where
  top : Tg
  has : Bool
  data : Slc
abbrev Rp.v (r : Rp) : Value := .agg #[.int .i64 r.top.n, .int .i64 r.top.c, .bool r.has, r.data.v]
def Rp.no : Rp := ⟨Tg.zero, false, Slc.nil⟩
abbrev iK (n : Int) : Value := .int .i64 n
def missing (L : List (Int × Rp)) (n : Nat) : List Int := ((List.range n).map fun i : Nat => (i : Int)).filter fun i => (llook L i).isNone
end Go.Vc
namespace Go.Proofs.YtabifopphhpciaaGreatDoor
open Go Go.Vc Go.Vc.Asn
abbrev Ty_phase : TypeId := Ty_client_reply_166
def phA (p : Nat) (x : Cfg × List (Int × Rp)) : Asn := ex fun g => star (bk p Ty_phase #[.int .i64 x.1.N, .int .i64 x.1.K, .int .i64 x.1.D, .map (some g)]) (mp iK Rp.v g x.2)
theorem und_map : PP.underlying Ty_map_int_client_reply = some (.map Ty_int Ty_client_reply) := by kernel_rfl
theorem zero_reply (w : World) : (zeroValue Ty_client_reply).run PP w = .ok Rp.no.v w := run_zero zero_119
theorem keyT_i : KeyT PP Ty_int iK := keyT_int und_int
section
variable {w0 w : World} {F : Asn} {p : Nat} {c : Cfg} {L : List (Int × Rp)} {s : Int} {r : Rp}
theorem llook_v (L : List (Int × Rp)) (s : Int) : ((llook L s).map Rp.v).getD Rp.no.v = ((llook L s).getD Rp.no).v := by cases llook L s <;> rfl
theorem ph_open (H : Hp w0 w (star (phA p (c, L)) F)) : ∃ g, Hp w0 w (star (bk p Ty_phase #[.int .i64 c.N, .int .i64 c.K, .int .i64 c.D, .map (some g)]) (star (mp iK Rp.v g L) F)) := by
  obtain ⟨g, H⟩ := H.ex
  exact ⟨g, H.assoc⟩
theorem ph_close {g : Nat} (H : Hp w0 w (star (bk p Ty_phase #[.int .i64 c.N, .int .i64 c.K, .int .i64 c.D, .map (some g)]) (star (mp iK Rp.v g L) F))) : Hp w0 w (star (phA p (c, L)) F) := H.assoc'.exI g
theorem pnew_c (h : c.Ok) : Calls PP F_phase_New #[c.v] w (Rt fun v w' => ∃ p, v = .tuple #[.pointer (some (blk p)), .int .i64 0] ∧ Hp w w' (star (phA p (c, [])) emp)) := by
  refine sim_phase_New _ _ _ _ _ ?_
  unfold vc_phase_New
  refine (Hp.start w).new fun b w1 H => call (check_c h) ?_
  rintro _ w2 ⟨rfl, f2⟩
  have H := H.fr0 f2
  refine ⟨_, rfl, fun h => absurd h (by decide), fun _ => ⟨_, H.cell (b := b) (i := 0) rfl, _, H.cell (b := b) (i := 1) rfl, _, H.cell (b := b) (i := 2) rfl, H.newM iK Rp.v fun g w3 H => H.new fun q w4 H => Rt.ok ⟨q, rfl, ph_close (g := g) ?_⟩⟩⟩
  exact ((H.blk b).drop.blk q).ent (Ent.star (Ent.refl _) (emp_r.trans (Ent.star emp_r' (Ent.refl _))))
theorem pget_c (H : Hp w0 w (star (phA p (c, L)) F)) : Calls PP F_client_reply_Get #[.pointer (some (blk p)), .int .i64 s] w (Rt fun v w' => v = .tuple #[((llook L s).getD Rp.no).v, .bool (llook L s).isSome] ∧ Fr [] w w') := by
  obtain ⟨g, H⟩ := ph_open H
  refine sim_client_reply_Get _ _ _ _ ?_
  unfold vc_client_reply_Get
  refine nw fun b w1 I f1 => I.new fun b2 w2 I => ⟨fun h => by simp at h, fun _ => ⟨_, rfl, ?_⟩⟩
  have H := H.fr0 I.fr
  refine ⟨_, H.cell (b := p) (i := 3) rfl, Hp.lkp (g := g) (ev := Rp.v) H keyT_i und_map (zero_reply _) ?_⟩
  rw [if_pos rfl, llook_v]
  refine ⟨_, _, _, _, _, rfl, I.new fun b3 w3 I => I.stoAll (b := b3) (by rfl) fun w4 I => ⟨_, I.cell (b := b3) (i := 0) rfl, _, I.cell (b := b3) (i := 1) rfl, _, I.cell (b := b3) (i := 2) rfl, _, I.cell (b := b3) (i := 3) rfl, I.stoAll (b := b) (by rfl) fun w5 I => ⟨_, I.cell (b := b) (i := 0) rfl, _, I.cell (b := b) (i := 1) rfl, _, I.cell (b := b) (i := 2) rfl, _, I.cell (b := b) (i := 3) rfl, Rt.ok ⟨rfl, I.fr⟩⟩⟩⟩
theorem panswer_c (h0 : 0 ≤ s) (h1 : s < c.N) (H : Hp w0 w (star (phA p (c, L)) F)) : Calls PP F_client_reply_Answer #[.pointer (some (blk p)), .int .i64 s, r.v] w (Rt fun v w' => v = .tuple #[.bool (!(llook L s).isSome), .int .i64 0] ∧ Hp w0 w' (star (phA p (c, lput L s r)) F)) := by
  obtain ⟨g, H⟩ := ph_open H
  refine sim_client_reply_Answer _ _ _ _ _ _ _ _ ?_
  unfold vc_client_reply_Answer
  refine H.new fun b w1 H => ⟨fun h => by simp at h, fun _ => ⟨decide (c.N ≤ s), fun _ => ⟨_, rfl, _, H.cell2 (b := p) (i := 0) (j := 0) rfl, rfl⟩, fun h => ?_, fun h => ?_, fun _ => ⟨_, rfl, _, H.cell (b := p) (i := 3) rfl, Hp.lkp (g := g) (ev := Rp.v) H keyT_i und_map (zero_reply _) ?_⟩⟩⟩
  · simp at h; omega
  · simp at h; omega
  rw [if_pos rfl, llook_v]
  refine ⟨_, _, _, _, _, rfl, H.new fun b3 w3 H => H.stoAll (b := b3) (by rfl) fun w4 H => ?_⟩
  have H := H.drew 1
  refine ⟨_, H.cell (b := p) (i := 3) rfl, _, H.cell (b := b) (i := 0) rfl, _, H.cell (b := b) (i := 1) rfl, _, H.cell (b := b) (i := 2) rfl, _, H.cell (b := b) (i := 3) rfl, Hp.mup (g := g) (ev := Rp.v) (v := r) H keyT_i und_map fun w6 H => Rt.ok ⟨rfl, ?_⟩⟩
  exact ph_close (((H.blk b).drop.blk b3).drop.blk p |>.take (mp iK Rp.v g (lput L s r)) |>.blk p)
theorem pmet_c (hc : c.Ok) (H : Hp w0 w (star (phA p (c, L)) F)) : Calls PP F_client_reply_Met #[.pointer (some (blk p))] w (Rt fun v w' => v = .bool (decide ((c.N + c.K + 1) / 2 ≤ (L.length : Int))) ∧ Fr [] w w') := by
  obtain ⟨g, H⟩ := ph_open H
  refine sim_client_reply_Met _ _ _ ?_
  unfold vc_client_reply_Met
  refine ⟨fun h => by simp at h, fun _ => ⟨_, rfl, _, H.cell2 (b := p) (i := 0) (j := 0) rfl, _, H.cell2 (b := p) (i := 0) (j := 1) rfl, _, H.cell2 (b := p) (i := 0) (j := 2) rfl, call (size_q hc) ?_⟩⟩
  rintro _ w1 ⟨rfl, f1⟩
  have H := H.fr0 f1
  refine ⟨_, _, rfl, _, H.cell (b := p) (i := 3) rfl, Hp.mlen (g := g) (H.take (mp iK Rp.v g L)) und_map (Rt.ok ⟨rfl, f1⟩)⟩
theorem missing_succ (L : List (Int × Rp)) (n : Nat) : missing L (n + 1) = missing L n ++ if (llook L (n : Int)).isNone then [(n : Int)] else [] := by
  unfold missing
  rw [List.range_succ, List.map_append, List.filter_append]
  congr 1
  simp only [List.map_cons, List.map_nil, List.filter_cons, List.filter_nil]
theorem one_i (x : Int) : ∀ u ∈ [Value.int .i64 x], u.oneCell' = true := by
  intro u hu
  rw [List.mem_singleton.1 hu]
  rfl
theorem pmissing_c {n : Nat} (hn : c.N = (n : Int)) (hn2 : n ≤ 255) (H : Hp w0 w (star (phA p (c, L)) F)) :
    Calls PP F_client_reply_Missing #[.pointer (some (blk p))] w (Rt fun v w' => ∃ s, v = Slc.v s ∧ Hp w w' (star (own Ty_int 1 s ((missing L n).map iK)) emp)) := by
  obtain ⟨g, H⟩ := ph_open H
  refine sim_client_reply_Missing _ _ _ ?_
  unfold vc_client_reply_Missing
  refine ⟨fun h => by simp at h, fun _ => ⟨_, rfl, _, H.cell2 (b := p) (i := 0) (j := 0) rfl, ?_⟩⟩
  rw [hn]
  refine ⟨fun s i w' => ∃ k : Nat, i = (k : Int) ∧ k ≤ n ∧ Hp w w' (star (own Ty_int 1 s ((missing L k).map iK)) emp), fun _ i _ => n - i.toNat, ⟨0, rfl, Nat.zero_le _, (Hp.start w).nilRow Ty_int 1⟩, ?_⟩
  rintro s _ w1 ⟨k, rfl, hk, I⟩
  refine ⟨fun h => ?_, fun h => ?_⟩
  · simp only [decide_eq_true_eq] at h
    have H := H.fr0 I.fr
    have e1 : wr .i64 ((k : Int) + 1) = ((k + 1 : Nat) : Int) := by rw [wr64 (by omega) (by omega)]; omega
    have hml : (missing L k).length ≤ k := by
      unfold missing
      refine Nat.le_trans (List.length_filter_le _ _) ?_
      simp
    have hsl : s.l = (missing L k).length := by
      have := (I.cel (s := s)).len
      simp at this
      omega
    refine ⟨fun s w' => Hp w w' (star (own Ty_int 1 s ((missing L (k + 1)).map iK)) emp), ⟨_, H.cell (b := p) (i := 3) rfl, Hp.lkp (g := g) (ev := Rp.v) H keyT_i und_map (zero_reply _) ?_⟩, fun s' w2 I => ⟨⟨k + 1, e1, by omega, I⟩, by rw [e1]; dsimp only; omega⟩⟩
    rw [if_pos rfl, llook_v]
    refine ⟨_, _, _, _, _, rfl, I.new fun b w2 I => I.stoAll (b := b) (by rfl) fun w3 I => ⟨fun h => ?_, fun h => ?_⟩⟩
    · have I := (I.blk b).drop
      have hnone : (llook L (k : Int)).isNone = true := by cases hx : llook L (k : Int) <;> simp [hx] at h ⊢
      refine I.newRow (e := Ty_int) (n := 1) (size := 1) [.int .i64 (k : Int)] rfl rfl (by decide) fun b w4 I => ?_
      refine I.app (s := s) slT_sl_int (I.cel (s := ⟨some (blk b), 1, 1⟩)) (one_i _) (by unfold maxLen; simp only; omega) (by simp only; omega) fun s' w5 I _ => ?_
      have I := (I.own ⟨some (blk b), 1, 1⟩).drop
      rw [missing_succ, if_pos hnone, List.map_append]
      exact I
    · have I := (I.blk b).drop
      rw [missing_succ, if_neg, List.append_nil]
      · exact I
      · cases hx : llook L (k : Int) <;> simp [hx] at h ⊢
  · simp only [decide_eq_false_iff_not] at h
    have : k = n := by omega
    subst this
    exact Rt.ok ⟨s, rfl, I⟩
end
end Go.Proofs.YtabifopphhpciaaGreatDoor

namespace Go.Proofs.YtabifopphhpciaaGreatDoor
open Go Go.Vc Go.Vc.Asn
theorem callV {fv : Value} {args : Array Value} {w : World} {Post : Value → World → Prop} {K : Value → World → Prop} {Kp : List PanicEntry → World → Prop}
    (h : CallV PP fv args w (Rt Post)) (k : ∀ v w', Post v w' → K v w') : CallV PP fv args w (CallK K Kp) := by
  obtain ⟨f, cap, h1, h2, h3⟩ := h
  exact ⟨f, cap, h1, h2, call h3 k⟩
def keysOf (L : List (Int × Rp)) : List Int := sortI (L.map (·.1))
theorem keysOf_perm (L : List (Int × Rp)) : (keysOf L).Perm (L.map (·.1)) := List.mergeSort_perm _ _
theorem keysOf_len (L : List (Int × Rp)) : (keysOf L).length = L.length := by rw [(keysOf_perm L).length_eq, List.length_map]
theorem sortI_ext {l l' : List Int} (h : l.Perm l') : sortI l = sortI l' := by
  have hs : ∀ m : List Int, List.Pairwise (fun x y => x ≤ y) (sortI m) := fun m => by
    have := List.pairwise_mergeSort (le := fun x y : Int => decide (x ≤ y)) (fun a b c h1 h2 => by simp at h1 h2 ⊢; omega) (fun a b => by simp; omega) m
    simpa [sortI] using this
  exact ((List.mergeSort_perm l _).trans (h.trans (List.mergeSort_perm l' _).symm)).eq_of_pairwise (fun a b _ _ h1 h2 => Int.le_antisymm h1 h2) (hs l) (hs l')
section
variable {w0 w : World} {F : Asn} {p : Nat} {c : Cfg} {L : List (Int × Rp)} {y : Value} {J : Nat → Asn} {stop : Nat → Bool}
theorem peach_c (hL : L.length ≤ 1099511627776) (hy : ∃ f a b, y = .func f a b)
    (step : ∀ (i : Nat) (hi : i < (keysOf L).length) (w : World) (A : Asn), (∀ j, j < i → stop j = false) → Hp w0 w (star (J i) A) →
      CallV PP y #[.int .i64 (keysOf L)[i], ((llook L (keysOf L)[i]).getD Rp.no).v] w (Rt fun v w' => v = .bool (!(stop i)) ∧ Hp w0 w' (star (J (i + 1)) A)))
    (H : Hp w0 w (star (phA p (c, L)) (star (J 0) F))) :
    Calls PP F_client_reply_Each #[.pointer (some (blk p)), y] w (Rt fun v w' => v = .tuple #[] ∧
      ∃ i, i ≤ (keysOf L).length ∧ ((i = (keysOf L).length ∧ ∀ j, j < i → stop j = false) ∨ (∃ j, i = j + 1 ∧ stop j = true ∧ ∀ j', j' < j → stop j' = false)) ∧ Hp w0 w' (star (phA p (c, L)) (star (J i) F))) := by
  obtain ⟨g, H⟩ := ph_open H
  refine sim_client_reply_Each _ _ _ _ ?_
  unfold vc_client_reply_Each
  obtain ⟨f, a, b, rfl⟩ := hy
  refine ⟨false, fun _ => ⟨false, .inr ⟨⟨f, a, b, rfl⟩, rfl⟩, rfl⟩, fun h => by simp at h, fun h => by simp at h, fun _ => ⟨_, rfl, _, H.cell (b := p) (i := 3) rfl, ?_⟩⟩
  have hne : (llook L) = llook L := rfl
  generalize hB : bk p Ty_phase #[.int .i64 c.N, .int .i64 c.K, .int .i64 c.D, .map (some g)] = B at H
  have H := H.take (mp iK Rp.v g L)
  refine Hp.rng und_map H fun it w1 H => ?_
  refine ⟨fun s w' => ∃ (rest : List (Int × Rp)) (ks : List Int) (cur : Option (Int × Rp)), (ks ++ rest.map (·.1)).Perm (L.map (·.1)) ∧ Hp w0 w' (star (mr iK Rp.v it g L rest cur) (star (own Ty_int 1 s (ks.map iK)) (star B (star (J 0) F)))), fun _ w => mleft it g w, ⟨L, [], none, by simp, ?_⟩, ?_⟩
  · exact H.ent (Ent.star (Ent.refl _) (fun w S h => ⟨fun _ => False, S, fun k => by simp, fun k h => h.elim, ⟨fun k => by simp [Slc.blks], Own.nil _ _ _⟩, h⟩))
  rintro s w2 ⟨rest, ks, cur, hp, H⟩
  have hm := H.left
  have hk := H.mrKeys.2
  have hlen : ks.length + rest.length = L.length := by have := hp.length_eq; simpa using this
  have hsl : s.l = ks.length := by
    have := (H.cel (s := s)).len
    simp at this
    omega
  refine H.nxt (fun hr => ⟨(fun h => nomatch h), fun _ => ?_⟩) fun x hx w3 H => ⟨fun _ => ?_, fun h => nomatch h⟩
  · subst hr
    have hts : ks.Perm (L.map (·.1)) := by simpa using hp
    have H := H.mrEnd.own s
    refine call (Hp.sortI Tryz.sortInt (by simp at hlen; omega) H) ?_
    rintro _ w3 ⟨rfl, H⟩
    rw [sortI_ext hts] at H
    subst hB
    have H : Hp w0 w3 (star (own Ty_int 1 s ((keysOf L).map iK)) (star (mp iK Rp.v g L) (star (bk p Ty_phase #[.int .i64 c.N, .int .i64 c.K, .int .i64 c.D, .map (some g)]) (star (J 0) F)))) := H
    refine ⟨rfl, _, H.cell (b := p) (i := 3) rfl, call (Hp.mclone Tryz.cloneRep (H.take (mp iK Rp.v g L))) ?_⟩
    rintro _ w4 ⟨g', rfl, H⟩
    have H := H.take (J 0)
    have hKl := keysOf_len L
    refine ⟨_, rfl, fun z w' => ∃ i : Nat, z = (i : Int) ∧ i ≤ (keysOf L).length ∧ (∀ j, j < i → stop j = false) ∧ Hp w0 w' (star (J i) (star (mp iK Rp.v g' L) (star (mp iK Rp.v g L) (star (own Ty_int 1 s ((keysOf L).map iK)) (star (bk p Ty_phase #[.int .i64 c.N, .int .i64 c.K, .int .i64 c.D, .map (some g)]) F))))), fun z _ => (keysOf L).length - z.toNat, ⟨0, rfl, Nat.zero_le _, fun j hj => absurd hj (Nat.not_lt_zero _), H⟩, ?_⟩
    rintro _ w5 ⟨i, rfl, hi, hst, H⟩
    have hsl2 : s.l = (keysOf L).length := by
      have := (H.cel (s := s)).len
      simp at this
      omega
    have hfin : ∀ {i : Nat} {w' : World}, Hp w0 w' (star (J i) (star (mp iK Rp.v g' L) (star (mp iK Rp.v g L) (star (own Ty_int 1 s ((keysOf L).map iK)) (star (bk p Ty_phase #[.int .i64 c.N, .int .i64 c.K, .int .i64 c.D, .map (some g)]) F))))) → Hp w0 w' (star (phA p (c, L)) (star (J i) F)) := fun {i w'} H => by
      have H := (H.take (mp iK Rp.v g' L)).drop
      have H := (H.own s).drop
      exact ph_close ((H.take (mp iK Rp.v g L)).blk p)
    refine ⟨fun h => ?_, fun h => ?_⟩
    · simp only [decide_eq_true_eq] at h
      have hlt : i < (keysOf L).length := by omega
      obtain ⟨a2, ha, hc⟩ := (H.cel (s := s)).at_ i (iK (keysOf L)[i]) (by simp [List.getElem?_eq_getElem hlt])
      have e1 : wr .i64 ((i : Int) + 1) = ((i + 1 : Nat) : Int) := by rw [wr64 (by omega) (by omega)]; omega
      refine ⟨a2, ha, by omega, by omega, _, by rw [Int.toNat_natCast, Nat.mul_one]; exact hc, Hp.lkp (g := g') (ev := Rp.v) (H.take (mp iK Rp.v g' L)) keyT_i und_map (zero_reply _) ?_⟩
      simp only [Bool.false_eq_true, if_false]
      rw [llook_v]
      refine ⟨_, _, _, _, rfl, callV (step i hlt _ _ hst H) ?_⟩
      rintro _ w6 ⟨rfl, H⟩
      refine ⟨_, rfl, fun hs => ?_, fun hs => ?_⟩
      · have hs : stop i = true := by simpa using hs
        exact Rt.ok ⟨rfl, i + 1, by omega, .inr ⟨i, rfl, hs, hst⟩, hfin H⟩
      · have hs : stop i = false := by simpa using hs
        refine ⟨⟨i + 1, e1, by omega, fun j hj => ?_, H⟩, by rw [e1]; omega⟩
        rcases Nat.lt_succ_iff_lt_or_eq.1 hj with hj | rfl
        · exact hst j hj
        · exact hs
    · simp only [decide_eq_false_iff_not] at h
      have hie : i = (keysOf L).length := by omega
      exact Rt.ok ⟨rfl, i, hi, .inl ⟨hie, hst⟩, hfin H⟩
  · have hm2 := H.left
    have hlt := ldel_lt hx
    have hp2 := (ldel_perm hk hx).map (·.1)
    have hpos : 0 < rest.length := List.length_pos_of_mem hx
    refine H.etr ⟨_, _, _, _, _, rfl, H.newRow (e := Ty_int) (n := 1) (size := 1) [.int .i64 x.1] rfl rfl (by decide) fun b32 w4 H => ?_⟩
    refine H.app (s := s) slT_sl_int (H.cel (s := ⟨some (blk b32), 1, 1⟩)) (one_i _) (by unfold maxLen; simp only; omega) (by simp only; omega) fun s' w5 H _ => ?_
    have H := ((H.own ⟨some (blk b32), 1, 1⟩).drop.own s').take (mr iK Rp.v it g L (ldel rest x.1) (some x))
    have hm3 := H.left
    refine ⟨⟨ldel rest x.1, ks ++ [x.1], some x, ?_, ?_⟩, by dsimp only; omega⟩
    · refine List.Perm.trans ?_ hp
      rw [List.append_assoc]
      exact List.Perm.append_left _ hp2.symm
    · rw [List.map_append]
      exact H
end
end Go.Proofs.YtabifopphhpciaaGreatDoor

namespace Go.Gf
def dbl (n : Nat) : Nat := if 255 < 2 * n then (2 * n) ^^^ 285 else 2 * n
def pw : Nat → Nat
  | 0 => 1
  | i + 1 => dbl (pw i)
def expT : List Nat := [1, 2, 4, 8, 16, 32, 64, 128, 29, 58, 116, 232, 205, 135, 19, 38, 76, 152, 45, 90, 180, 117, 234, 201, 143, 3, 6, 12, 24, 48, 96, 192, 157, 39, 78, 156, 37, 74, 148, 53, 106, 212, 181, 119, 238, 193, 159, 35, 70, 140, 5, 10, 20, 40, 80, 160, 93, 186, 105, 210, 185, 111, 222, 161, 95, 190, 97, 194, 153, 47, 94, 188, 101, 202, 137, 15, 30, 60, 120, 240, 253, 231, 211, 187, 107, 214, 177, 127, 254, 225, 223, 163, 91, 182, 113, 226, 217, 175, 67, 134, 17, 34, 68, 136, 13, 26, 52, 104, 208, 189, 103, 206, 129, 31, 62, 124, 248, 237, 199, 147, 59, 118, 236, 197, 151, 51, 102, 204, 133, 23, 46, 92, 184, 109, 218, 169, 79, 158, 33, 66, 132, 21, 42, 84, 168, 77, 154, 41, 82, 164, 85, 170, 73, 146, 57, 114, 228, 213, 183, 115, 230, 209, 191, 99, 198, 145, 63, 126, 252, 229, 215, 179, 123, 246, 241, 255, 227, 219, 171, 75, 150, 49, 98, 196, 149, 55, 110, 220, 165, 87, 174, 65, 130, 25, 50, 100, 200, 141, 7, 14, 28, 56, 112, 224, 221, 167, 83, 166, 81, 162, 89, 178, 121, 242, 249, 239, 195, 155, 43, 86, 172, 69, 138, 9, 18, 36, 72, 144, 61, 122, 244, 245, 247, 243, 251, 235, 203, 139, 11, 22, 44, 88, 176, 125, 250, 233, 207, 131, 27, 54, 108, 216, 173, 71, 142]
def logT : List Nat := [0, 0, 1, 25, 2, 50, 26, 198, 3, 223, 51, 238, 27, 104, 199, 75, 4, 100, 224, 14, 52, 141, 239, 129, 28, 193, 105, 248, 200, 8, 76, 113, 5, 138, 101, 47, 225, 36, 15, 33, 53, 147, 142, 218, 240, 18, 130, 69, 29, 181, 194, 125, 106, 39, 249, 185, 201, 154, 9, 120, 77, 228, 114, 166, 6, 191, 139, 98, 102, 221, 48, 253, 226, 152, 37, 179, 16, 145, 34, 136, 54, 208, 148, 206, 143, 150, 219, 189, 241, 210, 19, 92, 131, 56, 70, 64, 30, 66, 182, 163, 195, 72, 126, 110, 107, 58, 40, 84, 250, 133, 186, 61, 202, 94, 155, 159, 10, 21, 121, 43, 78, 212, 229, 172, 115, 243, 167, 87, 7, 112, 192, 247, 140, 128, 99, 13, 103, 74, 222, 237, 49, 197, 254, 24, 227, 165, 153, 119, 38, 184, 180, 124, 17, 68, 146, 217, 35, 32, 137, 46, 55, 63, 209, 91, 149, 188, 207, 205, 144, 135, 151, 178, 220, 252, 190, 97, 242, 86, 211, 171, 20, 42, 93, 158, 132, 60, 57, 83, 71, 109, 65, 162, 31, 45, 67, 216, 183, 123, 164, 118, 196, 23, 73, 236, 127, 12, 111, 246, 108, 161, 59, 82, 41, 157, 85, 170, 251, 96, 134, 177, 187, 204, 62, 90, 203, 89, 95, 176, 156, 169, 160, 81, 11, 245, 22, 235, 122, 117, 44, 215, 79, 174, 213, 233, 230, 231, 173, 232, 116, 214, 244, 234, 168, 80, 88, 175]
def lg (x : Nat) : Nat := logT.getD x 0
theorem pw_tab : ∀ i : Fin 255, pw i.val = expT.getD i.val 0 ∧ expT.getD i.val 0 < 256 ∧ expT.getD i.val 0 ≠ 0 ∧ lg (expT.getD i.val 0) = i.val := by decide +kernel
theorem lg_tab : ∀ x : Fin 256, x.val ≠ 0 → expT.getD (lg x.val) 0 = x.val ∧ lg x.val < 255 := by decide +kernel
theorem dbl_xor_tab : ∀ x y : Fin 256, dbl (x.val ^^^ y.val) = dbl x.val ^^^ dbl y.val := by decide +kernel
theorem dbl_tab : ∀ x : Fin 256, dbl x.val < 256 := by decide +kernel
theorem pw_255 : pw 255 = 1 := by decide +kernel
theorem pw_add (i : Nat) : ∀ j, pw (i + 255 + j) = pw (i + j)
  | 0 => by
    induction i with
    | zero => show pw 255 = pw 0; exact pw_255
    | succ i ih =>
      show pw (i + 1 + 255) = pw (i + 1)
      rw [show i + 1 + 255 = (i + 255) + 1 by omega]
      show dbl (pw (i + 255)) = dbl (pw i)
      have : pw (i + 255) = pw i := ih
      rw [this]
  | j + 1 => by
    show dbl (pw (i + 255 + j)) = dbl (pw (i + j))
    rw [pw_add i j]
theorem pw_mod (i : Nat) : pw (i % 255) = pw i := by
  have h : ∀ q r, pw (r + 255 * q) = pw r := fun q r => by
    induction q with
    | zero => rfl
    | succ q ih =>
      have := pw_add r (255 * q)
      rw [show r + 255 * (q + 1) = r + 255 + 255 * q by omega, this, ih]
  conv => rhs; rw [← Nat.mod_add_div i 255]
  exact (h _ _).symm
theorem pw_lt (i : Nat) : pw i < 256 ∧ pw i ≠ 0 := by
  rw [← pw_mod i]
  have h := pw_tab ⟨i % 255, Nat.mod_lt _ (by decide)⟩
  simp only at h
  rw [h.1]
  exact ⟨h.2.1, h.2.2.1⟩
theorem lg_pw (i : Nat) : lg (pw i) = i % 255 := by
  rw [← pw_mod i]
  have h := pw_tab ⟨i % 255, Nat.mod_lt _ (by decide)⟩
  simp only at h
  rw [h.1]
  exact h.2.2.2
theorem pw_lg {x : Nat} (hx : x < 256) (h0 : x ≠ 0) : pw (lg x) = x ∧ lg x < 255 := by
  have h := lg_tab ⟨x, hx⟩ h0
  simp only at h
  have h2 := pw_tab ⟨lg x, h.2⟩
  simp only at h2
  exact ⟨by rw [h2.1, h.1], h.2⟩
theorem exists_pw {x : Nat} (hx : x < 256) (h0 : x ≠ 0) : ∃ i, x = pw i := ⟨lg x, (pw_lg hx h0).1.symm⟩
def mulN (a b : Nat) : Nat := if a = 0 ∨ b = 0 then 0 else pw (lg a + lg b)
theorem mulN_pw (i j : Nat) : mulN (pw i) (pw j) = pw (i + j) := by
  unfold mulN
  rw [if_neg (fun h => h.elim (pw_lt i).2 (pw_lt j).2), lg_pw, lg_pw, ← pw_mod (i + j), ← pw_mod (i % 255 + j % 255), ← Nat.add_mod]
def dblN : Nat → Nat → Nat
  | 0, x => x
  | i + 1, x => dbl (dblN i x)
theorem dblN_pw (i j : Nat) : dblN i (pw j) = pw (i + j) := by
  induction i with
  | zero => show pw j = pw (0 + j); rw [Nat.zero_add]
  | succ i ih => show dbl (dblN i (pw j)) = _; rw [ih, show i + 1 + j = (i + j) + 1 by omega]; rfl
theorem dblN_zero (i : Nat) : dblN i 0 = 0 := by
  induction i with
  | zero => rfl
  | succ i ih => show dbl (dblN i 0) = 0; rw [ih]; rfl
theorem dblN_lt {x : Nat} (hx : x < 256) (i : Nat) : dblN i x < 256 := by
  induction i with
  | zero => exact hx
  | succ i ih => exact dbl_tab ⟨dblN i x, ih⟩
theorem xor_lt {x y : Nat} (hx : x < 256) (hy : y < 256) : x ^^^ y < 256 := Nat.xor_lt_two_pow (n := 8) hx hy
theorem dblN_xor {x y : Nat} (hx : x < 256) (hy : y < 256) (i : Nat) : dblN i (x ^^^ y) = dblN i x ^^^ dblN i y := by
  induction i with
  | zero => rfl
  | succ i ih =>
    show dbl (dblN i (x ^^^ y)) = dbl (dblN i x) ^^^ dbl (dblN i y)
    rw [ih]
    exact dbl_xor_tab ⟨_, dblN_lt hx i⟩ ⟨_, dblN_lt hy i⟩
theorem mulN_dblN {x : Nat} (hx : x < 256) (i : Nat) : mulN (pw i) x = dblN i x := by
  by_cases h0 : x = 0
  · subst h0
    unfold mulN
    rw [if_pos (.inr rfl), dblN_zero]
  · obtain ⟨j, rfl⟩ := exists_pw hx h0
    rw [mulN_pw, dblN_pw]
theorem mulN_lt (a b : Nat) : mulN a b < 256 := by
  unfold mulN
  split
  · decide
  · exact (pw_lt _).1
def mul (a b : UInt8) : UInt8 := UInt8.ofNat (mulN a.toNat b.toNat)
def inv (a : UInt8) : UInt8 := UInt8.ofNat (pw (255 - lg a.toNat))
theorem mul_toNat (a b : UInt8) : (mul a b).toNat = mulN a.toNat b.toNat := by
  unfold mul
  rw [UInt8.toNat_ofNat']
  exact Nat.mod_eq_of_lt (mulN_lt _ _)
theorem toNat_ne {a : UInt8} (h : a ≠ 0) : a.toNat ≠ 0 := fun e => h (UInt8.toNat_inj.1 e)
theorem mul_zero (a : UInt8) : mul a 0 = 0 := UInt8.toNat_inj.1 (by rw [mul_toNat]; unfold mulN; rw [if_pos (.inr rfl)]; rfl)
theorem zero_mul (a : UInt8) : mul 0 a = 0 := UInt8.toNat_inj.1 (by rw [mul_toNat]; unfold mulN; rw [if_pos (.inl rfl)]; rfl)
theorem mul_comm (a b : UInt8) : mul a b = mul b a := UInt8.toNat_inj.1 (by
  rw [mul_toNat, mul_toNat]
  unfold mulN
  by_cases h : a.toNat = 0 ∨ b.toNat = 0
  · rw [if_pos h, if_pos h.symm]
  · rw [if_neg h, if_neg (fun k => h k.symm), Nat.add_comm])
theorem pw_of {a : UInt8} (h : a ≠ 0) : ∃ i, a.toNat = pw i := exists_pw a.toNat_lt (toNat_ne h)
theorem mul_assoc (a b c : UInt8) : mul (mul a b) c = mul a (mul b c) := by
  by_cases ha : a = 0
  · subst ha; rw [zero_mul, zero_mul, zero_mul]
  by_cases hb : b = 0
  · subst hb; rw [mul_zero, zero_mul, mul_zero]
  by_cases hc : c = 0
  · subst hc; rw [mul_zero, mul_zero, mul_zero]
  obtain ⟨i, hi⟩ := pw_of ha
  obtain ⟨j, hj⟩ := pw_of hb
  obtain ⟨k, hk⟩ := pw_of hc
  apply UInt8.toNat_inj.1
  rw [mul_toNat, mul_toNat, mul_toNat, mul_toNat, hi, hj, hk, mulN_pw, mulN_pw, mulN_pw, mulN_pw, Nat.add_assoc]
theorem one_mul (a : UInt8) : mul 1 a = a := UInt8.toNat_inj.1 (by
  rw [mul_toNat]
  exact mulN_dblN a.toNat_lt 0)
theorem mul_one (a : UInt8) : mul a 1 = a := by rw [mul_comm, one_mul]
theorem mul_add (a x y : UInt8) : mul a (x ^^^ y) = mul a x ^^^ mul a y := by
  by_cases ha : a = 0
  · subst ha; rw [zero_mul, zero_mul, zero_mul]; rfl
  obtain ⟨i, hi⟩ := pw_of ha
  apply UInt8.toNat_inj.1
  rw [UInt8.toNat_xor, mul_toNat, mul_toNat, mul_toNat, UInt8.toNat_xor, hi, mulN_dblN (xor_lt x.toNat_lt y.toNat_lt), mulN_dblN x.toNat_lt, mulN_dblN y.toNat_lt]
  exact dblN_xor x.toNat_lt y.toNat_lt i
theorem add_mul (x y a : UInt8) : mul (x ^^^ y) a = mul x a ^^^ mul y a := by rw [mul_comm, mul_add, mul_comm a x, mul_comm a y]
theorem mul_inv {a : UInt8} (h : a ≠ 0) : mul a (inv a) = 1 := by
  have h1 := pw_lg a.toNat_lt (toNat_ne h)
  apply UInt8.toNat_inj.1
  have h2 : (inv a).toNat = pw (255 - lg a.toNat) := by
    unfold inv
    rw [UInt8.toNat_ofNat']
    exact Nat.mod_eq_of_lt (pw_lt _).1
  rw [mul_toNat, h2]
  conv => lhs; arg 1; rw [← h1.1]
  rw [mulN_pw, show lg a.toNat + (255 - lg a.toNat) = 255 by omega]
  exact pw_255
theorem mul_eq_zero {a b : UInt8} (h : mul a b = 0) (ha : a ≠ 0) : b = 0 := by
  have h1 : mul (inv a) (mul a b) = 0 := by rw [h, mul_zero]
  rw [← mul_assoc, mul_comm (inv a), mul_inv ha, one_mul] at h1
  exact h1
theorem inv_ne {a : UInt8} (h : a ≠ 0) : inv a ≠ 0 := fun e => by
  have := mul_inv h
  rw [e, mul_zero] at this
  exact absurd this (by decide)
theorem add_self (a : UInt8) : a ^^^ a = 0 := UInt8.xor_self
theorem add_zero (a : UInt8) : a ^^^ 0 = a := UInt8.xor_zero
theorem zero_add (a : UInt8) : 0 ^^^ a = a := UInt8.zero_xor
theorem add_comm (a b : UInt8) : a ^^^ b = b ^^^ a := UInt8.xor_comm _ _
theorem add_assoc (a b c : UInt8) : a ^^^ b ^^^ c = a ^^^ (b ^^^ c) := UInt8.xor_assoc _ _ _
theorem add_swap (a b c d : UInt8) : (a ^^^ b) ^^^ (c ^^^ d) = (a ^^^ c) ^^^ (b ^^^ d) := by
  rw [add_assoc, add_assoc, ← add_assoc b, add_comm b c, add_assoc c]
theorem eq_of_add {a b : UInt8} (h : a ^^^ b = 0) : a = b := by
  have h1 : (a ^^^ b) ^^^ b = b := by rw [h, zero_add]
  rw [add_assoc, add_self, add_zero] at h1
  exact h1
end Go.Gf

namespace Go.Gf
def sumX : Nat → (Nat → UInt8) → UInt8
  | 0, _ => 0
  | n + 1, f => sumX n f ^^^ f n
def dot (n : Nat) (f v : Nat → UInt8) : UInt8 := sumX n fun c => mul (f c) (v c)
theorem sumX_congr {n : Nat} {f g : Nat → UInt8} (h : ∀ c, c < n → f c = g c) : sumX n f = sumX n g := by
  induction n with
  | zero => rfl
  | succ n ih =>
    show sumX n f ^^^ f n = sumX n g ^^^ g n
    rw [ih fun c hc => h c (by omega), h n (by omega)]
theorem sumX_zero {n : Nat} {f : Nat → UInt8} (h : ∀ c, c < n → f c = 0) : sumX n f = 0 := by
  induction n with
  | zero => rfl
  | succ n ih =>
    show sumX n f ^^^ f n = 0
    rw [ih fun c hc => h c (by omega), h n (by omega)]
    rfl
theorem sumX_add (n : Nat) (f g : Nat → UInt8) : sumX n (fun c => f c ^^^ g c) = sumX n f ^^^ sumX n g := by
  induction n with
  | zero => exact (add_zero 0).symm
  | succ n ih =>
    show sumX n (fun c => f c ^^^ g c) ^^^ (f n ^^^ g n) = (sumX n f ^^^ f n) ^^^ (sumX n g ^^^ g n)
    rw [ih, add_swap]
theorem sumX_mul (n : Nat) (a : UInt8) (f : Nat → UInt8) : sumX n (fun c => mul a (f c)) = mul a (sumX n f) := by
  induction n with
  | zero => exact (mul_zero a).symm
  | succ n ih =>
    show sumX n (fun c => mul a (f c)) ^^^ mul a (f n) = mul a (sumX n f ^^^ f n)
    rw [ih, mul_add]
theorem sumX_swap (n m : Nat) (f : Nat → Nat → UInt8) : sumX n (fun i => sumX m fun j => f i j) = sumX m fun j => sumX n fun i => f i j := by
  induction n with
  | zero => exact (sumX_zero fun _ _ => rfl).symm
  | succ n ih =>
    show sumX n (fun i => sumX m fun j => f i j) ^^^ sumX m (fun j => f n j) = sumX m fun j => sumX n (fun i => f i j) ^^^ f n j
    rw [ih, sumX_add]
theorem sumX_one {n k : Nat} {f : Nat → UInt8} (hk : k < n) (h : ∀ c, c < n → c ≠ k → f c = 0) : sumX n f = f k := by
  induction n with
  | zero => omega
  | succ n ih =>
    show sumX n f ^^^ f n = f k
    by_cases hn : k = n
    · subst hn
      rw [sumX_zero fun c hc => h c (by omega) (by omega), zero_add]
    · rw [ih (by omega) fun c hc hck => h c (by omega) hck, h n (by omega) (fun e => hn e.symm), add_zero]
theorem sumX_split (n m : Nat) (f : Nat → UInt8) : sumX (n + m) f = sumX n f ^^^ sumX m fun c => f (n + c) := by
  induction m with
  | zero => exact (add_zero _).symm
  | succ m ih =>
    show sumX (n + m) f ^^^ f (n + m) = sumX n f ^^^ (sumX m (fun c => f (n + c)) ^^^ f (n + m))
    rw [ih, add_assoc]
theorem sumX_head (k : Nat) (f : Nat → UInt8) : sumX (k + 1) f = f 0 ^^^ sumX k fun c => f (c + 1) := by
  rw [Nat.add_comm k 1, sumX_split]
  show (0 ^^^ f 0) ^^^ _ = _
  rw [zero_add]
  congr 1
  exact sumX_congr fun c _ => by rw [Nat.add_comm]
theorem dot_congr {n : Nat} {f g v w : Nat → UInt8} (h : ∀ c, c < n → f c = g c) (h2 : ∀ c, c < n → v c = w c) : dot n f v = dot n g w := sumX_congr fun c hc => by rw [h c hc, h2 c hc]
theorem dot_add (n : Nat) (f g v : Nat → UInt8) : dot n (fun c => f c ^^^ g c) v = dot n f v ^^^ dot n g v := by
  unfold dot
  rw [← sumX_add]
  exact sumX_congr fun c _ => add_mul _ _ _
theorem dot_mul (n : Nat) (a : UInt8) (f v : Nat → UInt8) : dot n (fun c => mul a (f c)) v = mul a (dot n f v) := by
  unfold dot
  rw [← sumX_mul]
  exact sumX_congr fun c _ => mul_assoc _ _ _
/-! ## Rows under elimination -/
abbrev Mat := Nat → Nat → UInt8
def Ker (A : Mat) (n w : Nat) (v : Nat → UInt8) : Prop := ∀ i, i < n → dot w (A i) v = 0
def SameKer (A B : Mat) (n w : Nat) : Prop := ∀ v, Ker A n w v ↔ Ker B n w v
theorem SameKer.refl (A : Mat) (n w : Nat) : SameKer A A n w := fun _ => Iff.rfl
theorem SameKer.trans {A B C : Mat} {n w : Nat} (h : SameKer A B n w) (k : SameKer B C n w) : SameKer A C n w := fun v => (h v).trans (k v)
theorem ker_swap {A : Mat} {n w i j : Nat} (hi : i < n) (hj : j < n) : SameKer A (fun r => if r = i then A j else if r = j then A i else A r) n w := fun v => by
  constructor
  · intro h r hr
    show dot w (if r = i then A j else if r = j then A i else A r) v = 0
    split
    · exact h j hj
    · split
      · exact h i hi
      · exact h r hr
  · intro h r hr
    by_cases h1 : r = i
    · subst h1
      have := h j hj
      simp only at this
      by_cases h2 : j = r
      · subst h2; simpa using this
      · rw [if_neg h2] at this; simpa using this
    · by_cases h2 : r = j
      · subst h2
        have := h i hi
        simp only [if_true] at this
        exact this
      · have := h r hr
        simp only [if_neg h1, if_neg h2] at this
        exact this
theorem ker_scale {A : Mat} {n w i : Nat} {a : UInt8} (hi : i < n) (ha : a ≠ 0) : SameKer A (fun r => if r = i then fun c => mul a (A i c) else A r) n w := fun v => by
  constructor
  · intro h r hr
    show dot w (if r = i then fun c => mul a (A i c) else A r) v = 0
    split
    · rw [dot_mul, h i hi, mul_zero]
    · exact h r hr
  · intro h r hr
    have := h r hr
    simp only at this
    by_cases h1 : r = i
    · subst h1
      rw [if_pos rfl, dot_mul] at this
      exact mul_eq_zero this ha
    · rw [if_neg h1] at this
      exact this
theorem ker_add {A : Mat} {n w i j : Nat} {a : UInt8} (hi : i < n) (hj : j < n) (hij : i ≠ j) : SameKer A (fun r => if r = i then fun c => A i c ^^^ mul a (A j c) else A r) n w := fun v => by
  constructor
  · intro h r hr
    show dot w (if r = i then fun c => A i c ^^^ mul a (A j c) else A r) v = 0
    split
    · rw [dot_add, dot_mul, h i hi, h j hj, mul_zero]; rfl
    · exact h r hr
  · intro h r hr
    have h1 := h r hr
    have h2 := h j hj
    simp only at h1 h2
    rw [if_neg (Ne.symm hij)] at h2
    by_cases h3 : r = i
    · subst h3
      rw [if_pos rfl, dot_add, dot_mul, h2, mul_zero, add_zero] at h1
      exact h1
    · rw [if_neg h3] at h1
      exact h1
def Done (A : Mat) (n col : Nat) : Prop := ∀ j, j < col → ∀ i, i < n → A i j = if i = j then 1 else 0
def Triv (M : Mat) (n : Nat) : Prop := ∀ v, Ker M n n v → ∀ c, c < n → v c = 0
theorem no_pivot {A : Mat} {n w col : Nat} (hD : Done A n col) (hc : col < n) (hw : n ≤ w) (h0 : ∀ i, col ≤ i → i < n → A i col = 0) : ∃ v, v col = 1 ∧ (∀ c, col < c → v c = 0) ∧ Ker A n w v := by
  refine ⟨fun c => if c = col then 1 else if c < col then A c col else 0, by simp, fun c h => by simp only; rw [if_neg (by omega), if_neg (by omega)], fun i hi => ?_⟩
  have h1 : dot w (A i) (fun c => if c = col then 1 else if c < col then A c col else 0) = sumX w fun c => (if c = col then A i col else 0) ^^^ (if c < col then (if i = c then A c col else 0) else 0) := by
    refine sumX_congr fun c hcw => ?_
    dsimp only
    by_cases h2 : c = col
    · subst h2
      simp [mul_one]
    · rw [if_neg h2, if_neg h2]
      by_cases h3 : c < col
      · rw [if_pos h3, if_pos h3, hD c h3 i hi, zero_add]
        by_cases h4 : i = c
        · rw [if_pos h4, if_pos h4, one_mul]
        · rw [if_neg h4, if_neg h4, zero_mul]
      · rw [if_neg h3, if_neg h3, mul_zero, add_zero]
  rw [h1, sumX_add, sumX_one (k := col) (by omega) (fun c _ hcc => by rw [if_neg hcc]), if_pos rfl]
  by_cases h5 : i < col
  · rw [sumX_one (k := i) (by omega) (fun c _ hci => by
      split
      · rw [if_neg (fun e => hci e.symm)]
      · rfl), if_pos h5, if_pos rfl, add_self]
  · rw [h0 i (by omega) hi, sumX_zero fun c _ => by
      split
      · rename_i h6; rw [if_neg (by omega)]
      · rfl]
    rfl
/-! ## The inverse -/
def aug (M : Mat) (n : Nat) : Mat := fun i c => if c < n then M i c else if c = n + i then 1 else 0
def pair (n : Nat) (x y : Nat → UInt8) : Nat → UInt8 := fun c => if c < n then x c else y (c - n)
theorem dot_pair (n : Nat) (f x y : Nat → UInt8) : dot (n + n) f (pair n x y) = dot n f x ^^^ dot n (fun c => f (n + c)) y := by
  unfold dot
  rw [sumX_split]
  congr 1
  · exact sumX_congr fun c hc => by unfold pair; rw [if_pos hc]
  · exact sumX_congr fun c hc => by unfold pair; rw [if_neg (by omega), show n + c - n = c by omega]
theorem dot_aug {M : Mat} {n i : Nat} (hi : i < n) (x y : Nat → UInt8) : dot (n + n) (aug M n i) (pair n x y) = dot n (M i) x ^^^ y i := by
  rw [dot_pair]
  congr 1
  · exact dot_congr (fun c hc => by unfold aug; rw [if_pos hc]) fun _ _ => rfl
  · unfold dot
    rw [sumX_one (k := i) hi fun c hc hci => by
      unfold aug
      dsimp only
      rw [if_neg (by omega), if_neg (by omega), zero_mul]]
    unfold aug
    dsimp only
    rw [if_neg (by omega), if_pos rfl, one_mul]
theorem dot_done {A : Mat} {n i : Nat} (hD : Done A n n) (hi : i < n) (x y : Nat → UInt8) : dot (n + n) (A i) (pair n x y) = x i ^^^ dot n (fun c => A i (n + c)) y := by
  rw [dot_pair]
  congr 1
  unfold dot
  rw [sumX_one (k := i) hi fun c hc hci => by rw [hD c hc i hi, if_neg (fun e => hci e.symm), zero_mul], hD i hi i hi, if_pos rfl, one_mul]
theorem inverse {M A : Mat} {n : Nat} (hD : Done A n n) (hK : SameKer (aug M n) A n (n + n)) :
    (∀ x i, i < n → dot n (fun c => A i (n + c)) (fun j => dot n (M j) x) = x i) ∧ (∀ y i, i < n → dot n (M i) (fun j => dot n (fun c => A j (n + c)) y) = y i) := by
  constructor
  · intro x i hi
    have h1 : Ker (aug M n) n (n + n) (pair n x fun j => dot n (M j) x) := fun r hr => by rw [dot_aug hr, add_self]
    have h2 := (hK _).1 h1 i hi
    rw [dot_done hD hi] at h2
    exact (eq_of_add h2).symm
  · intro y i hi
    have h1 : Ker A n (n + n) (pair n (fun j => dot n (fun c => A j (n + c)) y) y) := fun r hr => by rw [dot_done hD hr, add_self]
    have h2 := (hK _).2 h1 i hi
    rw [dot_aug hi] at h2
    exact eq_of_add h2
theorem has_pivot {M A : Mat} {n col : Nat} (hT : Triv M n) (hK : SameKer (aug M n) A n (n + n)) (hD : Done A n col) (hc : col < n) : ∃ i, col ≤ i ∧ i < n ∧ A i col ≠ 0 := by
  refine Classical.byContradiction fun hno => ?_
  obtain ⟨v, h1, h2, h3⟩ := no_pivot hD hc (show n ≤ n + n by omega) fun i hi hn => Classical.byContradiction fun h => hno ⟨i, hi, hn, h⟩
  have h4 := (hK v).2 h3
  have h5 : Ker M n n v := fun i hi => by
    have h6 := h4 i hi
    have h7 : dot (n + n) (aug M n i) v = dot (n + n) (aug M n i) (pair n v fun _ => 0) := dot_congr (fun _ _ => rfl) fun c hc2 => by
      unfold pair
      split
      · rfl
      · exact h2 c (by omega)
    rw [h7, dot_aug hi, add_zero] at h6
    exact h6
  have h6 := hT v h5 col hc
  rw [h1] at h6
  exact absurd h6 (by decide)
/-! ## Vandermonde -/
def powX (p : UInt8) : Nat → UInt8
  | 0 => 1
  | c + 1 => mul (powX p c) p
def evalX : List UInt8 → UInt8 → UInt8
  | [], _ => 0
  | c :: r, x => c ^^^ mul x (evalX r x)
def quoX : List UInt8 → UInt8 → List UInt8
  | [], _ => []
  | [_], _ => []
  | _ :: c :: r, a => evalX (c :: r) a :: quoX (c :: r) a
theorem quo_len : ∀ (l : List UInt8) (a : UInt8), (quoX l a).length = l.length - 1
  | [], _ => rfl
  | [_], _ => rfl
  | _ :: c :: r, a => by
    show (quoX (c :: r) a).length + 1 = _
    rw [quo_len (c :: r) a]
    simp
theorem quo_eq : ∀ (l : List UInt8) (a x : UInt8), evalX l x = evalX l a ^^^ mul (x ^^^ a) (evalX (quoX l a) x)
  | [], a, x => by
    show (0 : UInt8) = 0 ^^^ mul (x ^^^ a) 0
    rw [mul_zero]; rfl
  | [c], a, x => by
    show c ^^^ mul x 0 = (c ^^^ mul a 0) ^^^ mul (x ^^^ a) 0
    rw [mul_zero, mul_zero, mul_zero, add_zero, add_zero]
  | d :: c :: r, a, x => by
    have ih := quo_eq (c :: r) a x
    show d ^^^ mul x (evalX (c :: r) x) = (d ^^^ mul a (evalX (c :: r) a)) ^^^ mul (x ^^^ a) (evalX (c :: r) a ^^^ mul x (evalX (quoX (c :: r) a) x))
    generalize evalX (c :: r) a = e at *
    generalize evalX (quoX (c :: r) a) x = q at *
    have h1 : mul (x ^^^ a) (mul x q) = mul x (mul (x ^^^ a) q) := by rw [← mul_assoc, mul_comm (x ^^^ a) x, mul_assoc]
    rw [ih, mul_add x, mul_add (x ^^^ a), h1, add_mul x a e, add_assoc d]
    congr 1
    rw [← add_assoc (mul a e), add_comm (mul x e) (mul a e), ← add_assoc (mul a e), add_self, zero_add]
theorem quo_zero : ∀ (l : List UInt8) (a : UInt8), evalX l a = 0 → (∀ y ∈ quoX l a, y = 0) → ∀ y ∈ l, y = 0
  | [], _, _, _ => fun y hy => nomatch hy
  | [c], a, h, _ => fun y hy => by
    simp at hy; subst hy
    have h : y ^^^ mul a 0 = 0 := h
    rw [mul_zero, add_zero] at h
    exact h
  | d :: c :: r, a, h, hq => fun y hy => by
    have h1 : evalX (c :: r) a = 0 := hq _ (List.mem_cons_self)
    have h2 := quo_zero (c :: r) a h1 fun y hy => hq y (List.mem_cons_of_mem _ hy)
    have h : d ^^^ mul a (evalX (c :: r) a) = 0 := h
    rw [h1, mul_zero, add_zero] at h
    rcases List.mem_cons.1 hy with rfl | hy
    · exact h
    · exact h2 y hy
theorem roots : ∀ (ps l : List UInt8), ps.Nodup → l.length ≤ ps.length → (∀ p ∈ ps, evalX l p = 0) → ∀ y ∈ l, y = 0
  | [], l, _, hl, _ => fun y hy => by
    have : l = [] := List.length_eq_zero_iff.1 (by simpa using hl)
    rw [this] at hy; cases hy
  | p :: ps, l, hn, hl, h0 => by
    have h1 := h0 p List.mem_cons_self
    refine quo_zero l p h1 (roots ps (quoX l p) (List.nodup_cons.1 hn).2 (by rw [quo_len]; simp at hl; omega) fun b hb => ?_)
    have h2 := quo_eq l p b
    rw [h0 b (List.mem_cons_of_mem _ hb), h1, zero_add] at h2
    refine mul_eq_zero h2.symm fun e => ?_
    have : b = p := eq_of_add e
    exact (List.nodup_cons.1 hn).1 (this ▸ hb)
theorem evalX_eq (v : Nat → UInt8) (x : UInt8) : ∀ (k s : Nat), mul (powX x s) (evalX ((List.range' s k).map v) x) = sumX k fun c => mul (powX x (s + c)) (v (s + c))
  | 0, s => mul_zero _
  | k + 1, s => by
    have ih := evalX_eq v x k (s + 1)
    rw [sumX_head]
    show mul (powX x s) (v s ^^^ mul x (evalX ((List.range' (s + 1) k).map v) x)) = mul (powX x (s + 0)) (v (s + 0)) ^^^ sumX k fun c => mul (powX x (s + (c + 1))) (v (s + (c + 1)))
    rw [mul_add, ← mul_assoc]
    congr 1
    show mul (powX x (s + 1)) _ = _
    rw [ih]
    exact sumX_congr fun c _ => by rw [show s + 1 + c = s + (c + 1) by omega]
theorem vander (p : Nat → UInt8) (k : Nat) (hp : ∀ i j, i < k → j < k → p i = p j → i = j) : Triv (fun i c => powX (p i) c) k := fun v hv c hc => by
  have hn : ((List.range k).map p).Nodup := by
    show List.Pairwise (· ≠ ·) _
    rw [List.pairwise_map]
    refine List.Pairwise.imp_of_mem (fun {a b} ha hb hab e => ?_) (List.nodup_range (n := k))
    exact hab (hp a b (List.mem_range.1 ha) (List.mem_range.1 hb) e)
  have h1 := roots ((List.range k).map p) ((List.range' 0 k).map v) hn (by simp) (fun y hy => by
    obtain ⟨i, hi, rfl⟩ := List.mem_map.1 hy
    have h2 := evalX_eq v (p i) k 0
    have h3 := hv i (List.mem_range.1 hi)
    unfold dot at h3
    simp only [Nat.zero_add] at h2
    rw [h3] at h2
    have : powX (p i) 0 = 1 := rfl
    rw [this, one_mul] at h2
    exact h2)
  exact h1 (v c) (List.mem_map_of_mem (by rw [List.mem_range'_1]; omega))
end Go.Gf

namespace Go.Gf
open Go Go.Vc
def fieldL : List Value := .int .i64 285 :: ((expT ++ expT).map (fun x : Nat => Value.int .u8 (x : Int)) ++ logT.map fun x : Nat => Value.int .i64 (x : Int))
theorem expT_len : (expT ++ expT).length = 510 := by decide +kernel
theorem logT_len : logT.length = 256 := by decide +kernel
theorem fieldL_log {a : Nat} (h : a < 256) : fieldL[511 + a]? = some (.int .i64 (lg a : Int)) := by
  unfold fieldL
  rw [show 511 + a = (510 + a) + 1 by omega, List.getElem?_cons_succ, List.getElem?_append_right (by rw [List.length_map, expT_len]; omega), List.length_map, expT_len, show 510 + a - 510 = a by omega, List.getElem?_map]
  have h1 : logT[a]? = some (lg a) := by
    unfold lg
    rw [List.getD_eq_getElem?_getD, List.getElem?_eq_getElem (by rw [logT_len]; exact h)]
    rfl
  rw [h1]
  rfl
theorem fieldL_exp {i : Nat} (h : i < 510) : fieldL[1 + i]? = some (.int .u8 (pw i : Int)) := by
  have h2 : ∀ x : Fin 510, (expT ++ expT).getD x.val 0 = pw x.val := by decide +kernel
  unfold fieldL
  rw [show 1 + i = i + 1 by omega, List.getElem?_cons_succ, List.getElem?_append_left (by rw [List.length_map, expT_len]; exact h), List.getElem?_map]
  have h1 : (expT ++ expT)[i]? = some (pw i) := by
    rw [← h2 ⟨i, h⟩, List.getD_eq_getElem?_getD, List.getElem?_eq_getElem (by rw [expT_len]; exact h)]
    rfl
  rw [h1]
  rfl
end Go.Gf
namespace Go.Proofs.YtabifopphhpciaaGreatDoor
open Go Go.Vc Go.Vc.Asn Go.Gf
abbrev fieldA (p : Nat) : Asn := bk p Ty_gf_Field fieldL.toArray
section
variable {p : Nat} {w0 w : World} {F : Asn}
theorem lg_lt {a : Nat} (h : a < 256) : lg a < 255 := by
  have h1 : ∀ x : Fin 256, lg x.val < 255 := by decide +kernel
  exact h1 ⟨a, h⟩
theorem mul_c {f : Nat} (a b : UInt8) (hB : Blk w f Ty_gf_Field fieldL.toArray) : Calls PP F_gf_Field_Mul #[.pointer (some (blk f)), u8v a, u8v b] w (Rt fun v w' => v = u8v (mul a b) ∧ Fr [] w w') := by
  refine sim_gf_Field_Mul _ _ _ _ _ ?_
  unfold vc_gf_Field_Mul
  have ha := a.toNat_lt
  have hb := b.toNat_lt
  have e : u8v (mul a b) = .int .u8 (mulN a.toNat b.toNat : Int) := by unfold u8v; rw [mul_toNat]
  refine ⟨fun h => Rt.ok ⟨?_, Fr.refl _ _⟩, fun h => ?_⟩
  · rw [e]
    unfold mulN
    simp at h
    rw [if_pos (by omega)]
    rfl
  · simp at h
    have h0 : ¬ (a.toNat = 0 ∨ b.toNat = 0) := by omega
    have l1 := lg_lt ha
    have l2 := lg_lt hb
    have ew : wr .i64 ((lg a.toNat : Int) + (lg b.toNat : Int)) = ((lg a.toNat + lg b.toNat : Nat) : Int) := by rw [wr64 (by omega) (by omega)]; omega
    refine ⟨_, rfl, by omega, by omega, (lg a.toNat : Int), ?_, by omega, by omega, (lg b.toNat : Int), ?_, by rw [ew]; omega, by rw [ew]; omega, (pw (lg a.toNat + lg b.toNat) : Int), ?_, fun k => Rt.ok ⟨?_, ?_⟩⟩
    · rw [Int.toNat_natCast, Nat.mul_one]
      exact hB.cell2 (by rw [List.getElem?_toArray]; exact fieldL_log ha)
    · rw [Int.toNat_natCast, Nat.mul_one]
      exact hB.cell2 (by rw [List.getElem?_toArray]; exact fieldL_log hb)
    · rw [ew, Int.toNat_natCast, Nat.mul_one]
      exact hB.cell2 (by rw [List.getElem?_toArray]; exact fieldL_exp (by omega))
    · rw [e]
      unfold mulN
      rw [if_neg h0]
    · exact ((Hp.start w).drew k).fr
theorem inv_c {f : Nat} (a : UInt8) (h0 : a ≠ 0) (hB : Blk w f Ty_gf_Field fieldL.toArray) : Calls PP F_gf_Field_Inv #[.pointer (some (blk f)), u8v a] w (Rt fun v w' => v = .tuple #[u8v (inv a), .int .i64 0] ∧ Fr [] w w') := by
  refine sim_gf_Field_Inv _ _ _ _ ?_
  unfold vc_gf_Field_Inv
  have ha := a.toNat_lt
  have hn := toNat_ne h0
  have l1 := lg_lt ha
  have e : (inv a).toNat = pw (255 - lg a.toNat) := by
    unfold inv
    rw [UInt8.toNat_ofNat']
    exact Nat.mod_eq_of_lt (pw_lt _).1
  have ew : wr .i64 (255 - (lg a.toNat : Int)) = ((255 - lg a.toNat : Nat) : Int) := by rw [wr64 (by omega) (by omega)]; omega
  refine ⟨fun h => by simp at h, fun _ => ⟨fun h => ?_, fun _ => ⟨_, rfl, by omega, by omega, (lg a.toNat : Int), ?_, by rw [ew]; omega, by rw [ew]; omega, (pw (255 - lg a.toNat) : Int), ?_, fun k => Rt.ok ⟨?_, ?_⟩⟩⟩⟩
  · simp at h; omega
  · rw [Int.toNat_natCast, Nat.mul_one]
    exact hB.cell2 (by rw [List.getElem?_toArray]; exact fieldL_log ha)
  · rw [ew, Int.toNat_natCast, Nat.mul_one]
    exact hB.cell2 (by rw [List.getElem?_toArray]; exact fieldL_exp (by omega))
  · unfold u8v; rw [e]
  · exact ((Hp.start w).drew k).fr
def fval (s idx : Nat) : Value := if idx = 0 then .int .i64 285 else if idx < 511 then .int .u8 (if (idx - 1) % 255 < s then (pw ((idx - 1) % 255) : Int) else 0) else .int .i64 (if idx - 511 ≠ 0 ∧ lg (idx - 511) < s then (lg (idx - 511) : Int) else 0)
def FAt (s : Nat) (cs : Array Value) : Prop := cs.size = 767 ∧ ∀ idx, idx < 767 → cs[idx]? = some (fval s idx)
theorem fat_end {cs : Array Value} (h : FAt 255 cs) : cs = fieldL.toArray := by
  apply Array.ext_getElem?
  intro idx
  rw [show fieldL.toArray[idx]? = fieldL[idx]? from List.getElem?_toArray]
  by_cases hi : idx < 767
  · rw [h.2 idx hi]
    unfold fval
    split
    · rename_i h0; subst h0; rfl
    · rename_i h0
      split
      · rename_i h1
        rw [if_pos (Nat.mod_lt _ (by decide)), pw_mod]
        have := fieldL_exp (i := idx - 1) (by omega)
        rw [show 1 + (idx - 1) = idx by omega] at this
        exact this.symm
      · rename_i h1
        have := fieldL_log (a := idx - 511) (by omega)
        rw [show 511 + (idx - 511) = idx by omega] at this
        rw [this]
        by_cases h2 : idx - 511 = 0
        · rw [if_neg (fun h => h.1 h2), h2]
          rfl
        · rw [if_pos ⟨h2, (pw_lg (by omega) h2).2⟩]
  · rw [Array.getElem?_eq_none (by rw [h.1]; omega), List.getElem?_eq_none]
    have : fieldL.length = 767 := by decide +kernel
    omega
theorem fat_step {s : Nat} {cs : Array Value} (hs : s < 255) (h : FAt s cs) : FAt (s + 1) (((cs.setIfInBounds (1 + s) (.int .u8 (pw s))).setIfInBounds (1 + (s + 255)) (.int .u8 (pw s))).setIfInBounds (511 + pw s) (.int .i64 s)) := by
  refine ⟨by simp [h.1], fun idx hi => ?_⟩
  have hp := pw_lt s
  have hl : lg (pw s) = s := by rw [lg_pw]; exact Nat.mod_eq_of_lt hs
  simp only [Array.getElem?_setIfInBounds, Array.size_setIfInBounds, h.1, h.2 idx hi]
  by_cases h1 : 511 + pw s = idx
  · rw [if_pos h1, if_pos (by omega)]
    unfold fval
    rw [if_neg (by omega), if_neg (by omega), show idx - 511 = pw s by omega, hl, if_pos ⟨hp.2, by omega⟩]
  · rw [if_neg h1]
    by_cases h2 : 1 + (s + 255) = idx
    · rw [if_pos h2, if_pos (by omega)]
      unfold fval
      rw [if_neg (by omega), if_pos (by omega), show (idx - 1) % 255 = s by omega, if_pos (by omega)]
    · rw [if_neg h2]
      by_cases h3 : 1 + s = idx
      · rw [if_pos h3, if_pos (by omega)]
        unfold fval
        rw [if_neg (by omega), if_pos (by omega), show (idx - 1) % 255 = s by omega, if_pos (by omega)]
      · rw [if_neg h3]
        unfold fval
        split
        · rfl
        · rename_i h0
          split
          · rename_i h4
            have : (idx - 1) % 255 ≠ s := by omega
            by_cases h5 : (idx - 1) % 255 < s
            · rw [if_pos h5, if_pos (by omega)]
            · rw [if_neg h5, if_neg (by omega)]
          · rename_i h4
            by_cases h5 : idx - 511 = 0
            · rw [if_neg (fun h => h.1 h5), if_neg (fun h => h.1 h5)]
            · have h6 := (pw_lg (show idx - 511 < 256 by omega) h5).1
              have h7 : lg (idx - 511) ≠ s := fun e => by rw [e] at h6; omega
              by_cases h8 : lg (idx - 511) < s
              · rw [if_pos ⟨h5, h8⟩, if_pos ⟨h5, by omega⟩]
              · rw [if_neg (fun h => h8 h.2), if_neg (fun h => by have := h.2; omega)]
def z0 : List Value := .int .i64 285 :: (List.replicate 510 (.int .u8 0) ++ List.replicate 256 (.int .i64 0))
theorem fat_zero {cs : Array Value} (h : cs = z0.toArray) : FAt 0 cs := by
  subst h
  have hl : z0.length = 767 := by unfold z0; rw [List.length_cons, List.length_append, List.length_replicate, List.length_replicate]
  refine ⟨by rw [List.size_toArray]; exact hl, fun idx hi => ?_⟩
  rw [List.getElem?_toArray]
  unfold fval z0
  cases idx with
  | zero => rfl
  | succ i =>
    rw [List.getElem?_cons_succ, if_neg (by omega)]
    by_cases h1 : i < 510
    · rw [List.getElem?_append_left (by rw [List.length_replicate]; exact h1), List.getElem?_replicate, if_pos h1, if_pos (by omega), if_neg (by omega)]
    · rw [List.getElem?_append_right (by rw [List.length_replicate]; omega), List.length_replicate, List.getElem?_replicate, if_pos (by omega), if_neg (by omega), if_neg (fun h => by have := h.2; omega)]
theorem shl_tab : ∀ x : Fin 256, shlI .i64 (x.val : Int) 1 = ((2 * x.val : Nat) : Int) ∧ xorI .i64 ((2 * x.val : Nat) : Int) 285 = (((2 * x.val) ^^^ 285 : Nat) : Int) := by decide +kernel
set_option maxHeartbeats 1000000 in
theorem gfNew_c : Calls PP F_gf_New #[.int .i64 285] w (Rt fun v w' => ∃ p, v = .tuple #[.pointer (some (blk p)), .int .i64 0] ∧ Hp w w' (star (fieldA p) emp)) := by
  refine sim_gf_New _ _ _ ?_
  unfold vc_gf_New
  refine ⟨fun h => by simp at h, fun _ => ?_⟩
  refine (Hp.start w).new fun b10 w1 H => ?_
  refine ⟨fun x s w' => ∃ (j : Nat) (cs : Array Value), s = (j : Int) ∧ j ≤ 255 ∧ x = (pw j : Int) ∧ FAt j cs ∧ Hp w w' (star (bk b10 Ty_gf_Field cs) emp), fun _ s _ => 255 - s.toNat, ⟨0, _, rfl, by omega, rfl, ?_, H⟩, ?_⟩
  · exact fat_zero (by kernel_rfl)
  rintro _ _ w2 ⟨j, cs, rfl, hj, rfl, hF, H⟩
  have hp := pw_lt j
  refine ⟨fun h => ?_, fun h => ?_⟩
  · have hlt : j < 255 := by simp only [decide_eq_true_eq] at h; omega
    have ewr : wr .i64 ((j : Int) + 1) = ((j + 1 : Nat) : Int) := by rw [wr64 (by omega) (by omega)]; omega
    have ew2 : wr .i64 ((j : Int) + 255) = ((j + 255 : Nat) : Int) := by rw [wr64 (by omega) (by omega)]; omega
    have e8 : wr .u8 (pw j : Int) = (pw j : Int) := by
      have : ∀ x : Fin 256, wr .u8 (x.val : Int) = (x.val : Int) := by decide +kernel
      exact this ⟨_, hp.1⟩
    obtain ⟨s1, s2⟩ := shl_tab ⟨pw j, hp.1⟩
    simp only at s1 s2
    have hdbl : pw (j + 1) = dbl (pw j) := rfl
    have hl : lg (pw j) = j := by rw [lg_pw]; exact Nat.mod_eq_of_lt hlt
    refine ⟨fun x w' => x = (pw (j + 1) : Int) ∧ ∃ cs, FAt (j + 1) cs ∧ Hp w w' (star (bk b10 Ty_gf_Field cs) emp), ⟨fun h2 => ?_, fun _ => ⟨by omega, by omega, ?_⟩⟩, ?_⟩
    · exfalso
      simp only [Bool.or_eq_true, decide_eq_true_eq, Bool.and_eq_true] at h2
      rcases h2 with h2 | ⟨h2, h3⟩
      · exact hp.2 (by omega)
      · have h4 : pw j = 1 := by omega
        rw [h4] at hl
        have h5 : lg 1 = 0 := by decide +kernel
        omega
    · rw [e8, ew2, s1]
      simp only [Int.toNat_natCast, Nat.mul_one]
      refine H.sto2 (b := b10) (i := 1) (j := j) (by rw [hF.1]; omega) fun w3 H => ⟨by omega, by omega, H.sto2 (b := b10) (i := 1) (j := j + 255) (by simp [hF.1]; omega) fun w4 H => ⟨by omega, by omega, H.sto2 (b := b10) (i := 511) (j := pw j) (by simp [hF.1]; omega) fun w5 H => ⟨fun h3 => ⟨?_, _, fat_step hlt hF, H⟩, fun h3 => ⟨?_, _, fat_step hlt hF, H⟩⟩⟩⟩
      · rw [s2, hdbl]; unfold dbl; rw [if_pos (by simp only [decide_eq_true_eq] at h3; omega)]
      · rw [hdbl]; unfold dbl; rw [if_neg (by simp only [decide_eq_false_iff_not] at h3; omega)]
    · rintro _ w3 ⟨rfl, cs2, hF2, H⟩
      exact ⟨⟨j + 1, cs2, by rw [ewr], by omega, rfl, hF2, H⟩, by dsimp only; rw [ewr]; omega⟩
  · have hje : j = 255 := by simp only [decide_eq_false_iff_not] at h; omega
    subst hje
    rw [fat_end hF] at H
    have h1 := pw_255
    exact ⟨fun h => by rw [h1] at h; simp at h, fun _ => Rt.ok ⟨b10, rfl, H⟩⟩
end
end Go.Proofs.YtabifopphhpciaaGreatDoor

namespace Go.Gf
open Go Go.Vc
theorem xor8 (a b : UInt8) : Value.int .u8 (xorI .u8 (a.toNat : Int) (b.toNat : Int)) = u8v (a ^^^ b) := by
  have h : ∀ x y : Fin 256, xorI .u8 (x.val : Int) (y.val : Int) = ((x.val ^^^ y.val : Nat) : Int) := by decide +kernel
  have h1 := h ⟨a.toNat, a.toNat_lt⟩ ⟨b.toNat, b.toNat_lt⟩
  simp only at h1
  unfold u8v
  rw [h1, UInt8.toNat_xor]
end Go.Gf

namespace Go.Gf
open Go Go.Vc
def addR (c : UInt8) (bs xs : List UInt8) : List UInt8 := List.zipWith (fun b x => b ^^^ mul c x) bs xs
end Go.Gf
namespace Go.Proofs.YtabifopphhpciaaGreatDoor
open Go Go.Vc Go.Vc.Asn Go.Gf
section
variable {p : Nat} {w0 w : World} {F : Asn}
def RdB (w0 : World) (F : Asn) (d : Slc) (bs : List UInt8) : Prop := ∀ w' A, Hp w0 w' (star A F) → Byt w' d bs
def RdK (w0 : World) (F : Asn) (p : Nat) : Prop := ∀ w' A, Hp w0 w' (star A F) → Blk w' p Ty_gf_Field fieldL.toArray
theorem addMul_c {d s : Slc} {bs xs : List UInt8} (c : UInt8) (hK : RdK w0 F p) (hb : RdB w0 F s xs) (hlen : xs.length = bs.length) (hl : bs.length ≤ 1099511627776) (H : Hp w0 w (star (own Ty_uint8 1 d (bs.map u8v)) F)) :
    Calls PP F_gf_Field_AddMul #[.pointer (some (blk p)), d.v, u8v c, s.v] w (Rt fun v w' => v = .int .i64 0 ∧ Hp w0 w' (star (own Ty_uint8 1 d ((addR c bs xs).map u8v)) F)) := by
  have hdl : d.l = bs.length := by have := (H.cel (s := d)).len; simp at this; omega
  have hsl : s.l = xs.length := by have := (hb _ _ H).len; omega
  refine sim_gf_Field_AddMul _ _ _ _ _ _ ?_
  unfold vc_gf_Field_AddMul
  refine ⟨fun h => by simp at h, fun _ => ⟨fun h => ?_, fun _ => ?_⟩⟩
  · rw [hdl, hsl, hlen] at h; simp at h
  refine Hp.app (s := Slc.nil) slT_sl_uint8 (H.nilRow Ty_uint8 1) (hb _ _ H) (one_u8 _) (by unfold maxLen; simp only; omega) (by simp only; omega) fun s15 w1 H hs15 => ?_
  simp only at hs15
  rw [List.nil_append] at H
  refine ⟨fun i w' => ∃ (j : Nat) (cur : List UInt8), i = (j : Int) ∧ j ≤ bs.length ∧ cur.length = bs.length ∧ (∀ k, k < j → cur[k]? = (addR c bs xs)[k]?) ∧ (∀ k, j ≤ k → cur[k]? = bs[k]?) ∧ Hp w0 w' (star (own Ty_uint8 1 s15 (xs.map u8v)) (star (own Ty_uint8 1 d (cur.map u8v)) F)), fun i _ => bs.length - i.toNat, ⟨0, bs, rfl, Nat.zero_le _, rfl, (fun k hk => by omega), fun _ _ => rfl, H⟩, ?_⟩
  rintro _ w2 ⟨j, cur, rfl, hj, hcl, h1, h2, H⟩
  have hal : (addR c bs xs).length = bs.length := by unfold addR; rw [List.length_zipWith]; omega
  refine ⟨fun h => ?_, fun h => ?_⟩
  · have hlt : j < bs.length := by simp only [decide_eq_true_eq] at h; omega
    have ewr : wr .i64 ((j : Int) + 1) = ((j + 1 : Nat) : Int) := by rw [wr64 (by omega) (by omega)]; omega
    obtain ⟨a, ha, hc⟩ := (H.cel (s := s15)).at_ j (u8v (xs[j]'(by omega))) (by rw [List.getElem?_map, List.getElem?_eq_getElem (by omega)]; rfl)
    have hcj : cur[j]? = some (bs[j]'hlt) := by rw [h2 j (Nat.le_refl _), List.getElem?_eq_getElem hlt]
    have H := H.drew 1
    obtain ⟨a2, ha2, hc2⟩ := (H.cel (s := d)).at_ j (u8v (bs[j]'hlt)) (by rw [List.getElem?_map, hcj]; rfl)
    refine ⟨a, ha, by omega, by omega, _, by rw [Int.toNat_natCast, Nat.mul_one]; exact hc, a2, ha2, by omega, by omega, _, by rw [Int.toNat_natCast, Nat.mul_one]; exact hc2, ?_⟩
    refine call (mul_c c (xs[j]'(by omega)) (hK _ _ H.assoc')) ?_
    rintro _ w3 ⟨rfl, f⟩
    have H := H.fr0 f
    rw [Int.toNat_natCast, Nat.mul_one]
    obtain ⟨a3, ha3, hc3⟩ := (H.cel (s := d)).at_ j (u8v (bs[j]'hlt)) (by rw [List.getElem?_map, hcj]; rfl)
    rw [ha2] at ha3
    injection ha3 with ha3
    subst ha3
    refine ⟨_, rfl, hc3, a2, ha2, by omega, by omega, ?_⟩
    refine (H.own d).stoS (s := d) (i := j) (by rw [List.length_map]; omega) ha2 fun w4 H => ?_
    rw [xor8, ← List.map_set] at H
    refine ⟨⟨j + 1, cur.set j (bs[j]'hlt ^^^ mul c (xs[j]'(by omega))), by rw [ewr], by omega, by rw [List.length_set]; exact hcl, fun k hk => ?_, fun k hk => ?_, H.own s15⟩, by dsimp only; rw [ewr]; omega⟩
    · rw [List.getElem?_set]
      by_cases hkj : j = k
      · subst hkj
        rw [if_pos rfl, if_pos (by omega)]
        unfold addR
        rw [List.getElem?_zipWith, List.getElem?_eq_getElem hlt, List.getElem?_eq_getElem (by omega)]
      · rw [if_neg hkj]
        exact h1 k (by omega)
    · rw [List.getElem?_set, if_neg (by omega)]
      exact h2 k (by omega)
  · have hje : j = bs.length := by simp only [decide_eq_false_iff_not] at h; omega
    subst hje
    have e : cur = addR c bs xs := by
      apply List.ext_getElem?
      intro k
      by_cases hk : k < bs.length
      · exact h1 k hk
      · rw [List.getElem?_eq_none (by omega), List.getElem?_eq_none (by omega)]
    rw [e] at H
    exact Rt.ok ⟨rfl, H.drop⟩
end
end Go.Proofs.YtabifopphhpciaaGreatDoor

namespace Go.Vc
open Go Go.Vc.Asn
theorem Asn.Ent.bring {P A F B : Asn} [h : Take P A F] (k : Ent F B) : Ent A (Asn.star P B) := h.e.trans (Ent.star (Ent.refl P) k)
theorem made_one {z : Value} (hz : z.cells = #[z]) (n : Nat) : madeCells z.cells (n * 1) = (List.replicate n z).toArray := by
  rw [hz, Nat.mul_one]
  apply Array.ext
  · simp [madeCells]
  · intro i h1 h2
    simp [madeCells, Nat.mod_one]
theorem Hp.make {P : Program} {t e bytes n : Nat} {z : Value} (T : SlT P t e 1 bytes z) (hz : z.cells = #[z]) {w0 w : World} {A : Asn} {K : Slc → World → Prop} (hb : bytes * n ≤ 281474976710656) (hn : n ≤ 16777216) (H : Hp w0 w A)
    (k : ∀ b w', Hp w0 w' (star (Asn.own e 1 ⟨some (Vc.blk b), n, n⟩ (List.replicate n z)) A) → K ⟨some (Vc.blk b), n, n⟩ w') : Mk P t w (.int .i64 (n : Int)) (.int .i64 (n : Int)) K := by
  cases hi : P.info? e with
  | none => have := T.info; rw [hi] at this; simp at this
  | some i =>
    have hinfo := T.info
    rw [hi] at hinfo
    simp only [Option.map_some, Option.some.injEq, Prod.mk.injEq] at hinfo
    obtain ⟨h1, h2, h3⟩ := hinfo
    have hb2 : (bytes : Int) * (n : Int) ≤ 281474976710656 := by
      have h : ((bytes * n : Nat) : Int) ≤ 281474976710656 := by omega
      rwa [Int.natCast_mul] at h
    have hr := run_makeSlice (P := P) (w := w) t e i z T.ut hi h1 .i64 .i64 (n : Int) (n : Int) (by omega) (Int.le_refl _) (by rw [h2]; omega) (by rw [h3]; exact hb2) (by omega)
    refine ⟨⟨some (Vc.blk w.heap.size), n, n⟩, _, hr, ?_⟩
    simp only [Int.toNat_natCast]
    rw [h2, made_one hz]
    exact k _ _ (H.row (b := w.heap.size) ⟨rfl, rfl⟩ rfl (by simp) (by unfold maxLen; omega))
end Go.Vc

namespace Go.Proofs.YtabifopphhpciaaGreatDoor
open Go Go.Vc Go.Vc.Asn Go.Gf
abbrev Rws := List (Slc × List UInt8)
def rwA (r : Slc × List UInt8) : Asn := own Ty_uint8 1 r.1 (r.2.map u8v)
def rwsA (s : Slc) (rs : Rws) : Asn := star (own Ty_sl_uint8 1 s (rs.map fun r => r.1.v)) (all rwA rs)
def matA (p : Nat) (f : Option Addr) (s : Slc) (rs : Rws) : Asn := star (bk p Ty_matrix_Matrix #[.pointer f, s.v]) (rwsA s rs)
section
variable {p : Nat} {w0 w : World} {F : Asn}
theorem zcells (n : Nat) : (List.replicate n (Value.int .u8 0)) = (List.replicate n (0 : UInt8)).map u8v := by
  rw [List.map_replicate]; rfl
theorem all_snoc2 {α : Type} (f : α → Asn) (x : α) (l : List α) : Ent (star (f x) (all f l)) (all f (l ++ [x])) := by
  induction l with
  | nil => exact Ent.refl _
  | cons y r ih => exact left.trans (Ent.star (Ent.refl _) ih)
theorem blank_c {f : Option Addr} {m n : Nat} (hm : m ≤ 16777216) (hn : n ≤ 16777216) (H : Hp w0 w F) :
    Calls PP F_matrix_blank #[.pointer f, .int .i64 (m : Int), .int .i64 (n : Int)] w (Rt fun v w' => ∃ p s rs, v = .pointer (some (blk p)) ∧ rs.map (·.2) = List.replicate m (List.replicate n 0) ∧ Hp w0 w' (star (matA p f s rs) F)) := by
  refine sim_matrix_blank _ _ _ _ _ ?_
  unfold vc_matrix_blank
  refine Hp.make slT_sl_sl_uint8 rfl (by omega) hm H fun b6 w1 H => H.new fun b9 w2 H => ?_
  refine ⟨fun i w' => ∃ (j : Nat) (rs : Rws), i = (j : Int) ∧ j ≤ m ∧ rs.map (·.2) = List.replicate j (List.replicate n 0) ∧ Hp w0 w' (star (bk b9 Ty_matrix_Matrix #[.pointer f, Slc.v ⟨some (blk b6), m, m⟩]) (star (own Ty_sl_uint8 1 ⟨some (blk b6), m, m⟩ (rs.map (fun r => r.1.v) ++ List.replicate (m - j) (Slc.v Slc.nil))) (star (all rwA rs) F))), fun i _ => m - i.toNat, ⟨0, [], rfl, Nat.zero_le _, rfl, H.ent (Ent.star (Ent.refl _) (Ent.star (Ent.refl _) emp_l))⟩, ?_⟩
  rintro _ w3 ⟨j, rs, rfl, hj, hrs, H⟩
  have hrl : rs.length = j := by have := congrArg List.length hrs; simpa using this
  refine ⟨fun h => ?_, fun h => ?_⟩
  · have hlt : j < m := by simp only [decide_eq_true_eq] at h; omega
    have ewr : wr .i64 ((j : Int) + 1) = ((j + 1 : Nat) : Int) := by rw [wr64 (by omega) (by omega)]; omega
    have H := H.drew 1
    refine ⟨_, H.cell (b := b9) (i := 1) rfl, Hp.make slT_sl_uint8 rfl (by omega) hn H fun b25 w4 H => ⟨H.cell (b := b9) (i := 1) rfl, blk b6, rfl, by omega, by show (j : Int) < (m : Int); omega, ?_⟩⟩
    rw [Int.toNat_natCast, Nat.mul_one]
    refine (H.own ⟨some (blk b6), m, m⟩).stoS (s := ⟨some (blk b6), m, m⟩) (i := j) (by simp; omega) rfl fun w5 H => ?_
    refine ⟨⟨j + 1, rs ++ [(⟨some (blk b25), n, n⟩, List.replicate n 0)], by rw [ewr], by omega, ?_, ?_⟩, by dsimp only; rw [ewr]; omega⟩
    · rw [List.map_append, hrs, List.replicate_succ']; rfl
    · have e1 : (rs.map (fun r => r.1.v) ++ List.replicate (m - j) (Slc.v Slc.nil)).set j (⟨some (blk b25), n, n⟩ : Slc).v = (rs ++ [((⟨some (blk b25), n, n⟩ : Slc), List.replicate n 0)]).map (fun r : Slc × List UInt8 => r.1.v) ++ List.replicate (m - (j + 1)) (Slc.v Slc.nil) := by
        rw [List.set_append_right _ _ (by simp; omega), List.length_map, hrl, Nat.sub_self, show m - j = (m - (j + 1)) + 1 by omega, List.replicate_succ, List.set_cons_zero, List.map_append, List.append_assoc]
        rfl
      rw [e1, zcells] at H
      have H := ((H.own ⟨some (blk b25), n, n⟩).ent (Ent.star (Ent.refl _) (Ent.bring (P := all rwA rs) (Ent.refl _)))).assoc'
      have H := H.ent (Ent.star (all_snoc2 rwA (⟨some (blk b25), n, n⟩, List.replicate n 0) rs) (Ent.refl _))
      exact (H.own ⟨some (blk b6), m, m⟩).blk b9
  · have hje : j = m := by simp only [decide_eq_false_iff_not] at h; omega
    subst hje
    rw [Nat.sub_self, List.replicate_zero, List.append_nil] at H
    refine Rt.ok ⟨b9, ⟨some (blk b6), j, j⟩, rs, rfl, hrs, ?_⟩
    exact (H.ent (Ent.star (Ent.refl _) Asn.assoc')).assoc'
end
end Go.Proofs.YtabifopphhpciaaGreatDoor

namespace Go.Vc
open Go Go.Vc.Asn
theorem Own.cpy {P : Program} {t ty e bytes : Nat} {z : Value} (T : SlT P t e 1 bytes z) {w : World} {s d y : Slc} {cs ys : List Value} {o : Nat} (h : Own e 1 w s cs) (hy : Cel w y 1 ys) (h1 : ∀ u ∈ ys, u.oneCell' = true)
    (hd : 0 < d.l → ∀ p, s.a = some p → d.a = some (p.add o)) (hl : o + d.l ≤ cs.length) {K : Int → World → Prop}
    (k : ∀ w', Own e 1 w' s (cs.take o ++ ys.take (min y.l d.l) ++ cs.drop (o + min y.l d.l)) → Fr s.blks w w' → K ((min y.l d.l : Nat) : Int) w') : Cpy P t t ty w d.v y.v K := by
  have hyl := hy.len
  have hi : (P.info? e).map (·.size) = some 1 := by
    have := T.info
    cases hq : P.info? e with
    | none => rw [hq] at this; simp at this
    | some i => rw [hq] at this; simp at this; simp [this.2.1]
  by_cases hn : min y.l d.l = 0
  · have hr := run_copy_none (P := P) w t t ty e d.a y.a d.l d.c y.l y.c T.ut hi hn
    refine ⟨0, w, hr, ?_⟩
    have := k w (by rw [hn]; simpa using h) (Fr.refl _ _)
    rw [hn] at this
    exact this
  · obtain ⟨g, cur, e1, hB, e3, e4, e5, e6⟩ := h.some_ (by intro h0; rw [h0] at hl; simp at hl; omega)
    obtain ⟨a, ha, _⟩ := hy.at_ 0 (ys[0]'(by omega)) (List.getElem?_eq_getElem _)
    have hda := hd (by omega) _ e1
    rw [blk_add] at hda
    obtain ⟨da, dl, dc⟩ := d
    obtain ⟨ya, yl, yc⟩ := y
    simp only at hda ha hl hn hyl k
    subst hda ha
    have hcl : s.l ≤ cur.size := by omega
    have hcs : cs.length = s.l := by have := h.1; omega
    have hr := run_copy_row P w t t ty e g o dl dc a yl yc cur e (ys.take (min yl dl)) T.ut hi hB (by rw [List.length_take]; show _ = min yl dl; omega) (fun j v hv => by
      rw [List.getElem?_take] at hv
      split at hv
      · obtain ⟨q, hq, hc⟩ := hy.at_ j v hv
        injection hq with hq
        subst hq
        exact hc
      · cases hv) (by rw [List.length_take]; omega) (fun v hv => h1 v (List.mem_of_mem_take hv))
    have hlen : (ys.take (min yl dl)).length = min yl dl := by rw [List.length_take]; omega
    rw [hlen] at hr
    refine ⟨((min yl dl : Nat) : Int), _, hr, k _ ⟨?_, .inr ⟨g, s.c, _, by simp only [Slc.v, e1], Nat.zero_le _, setRow_heap w g cur _ e _ hB, e3, e4, ?_, ?_⟩⟩ ?_⟩
    · simp only [List.length_append, List.length_take, List.length_drop]; omega
    · simp only [List.size_toArray, List.length_append, List.length_take, List.length_drop, Array.length_toList]; omega
    · rw [← e6]
      simp only [Nat.mul_one]
      rw [List.take_append, List.take_append]
      simp only [List.length_append, List.length_take, Array.length_toList, List.take_take, List.drop_take]
      congr 1
      · congr 1
        · rw [show min o s.l = o by omega, show min s.l o = o by omega]
        · congr 1; omega
      · congr 1
        omega
    · unfold Slc.blks
      rw [e1]
      refine ⟨rfl, rfl, rfl, by simp [World.setRow], fun k hk hks => ?_⟩
      rw [setRow_other]
      intro e7
      subst e7
      simp at hks
section
variable {w0 w : World} {A F : Asn} {P : Program} {t ty e bytes : Nat} {z : Value} {s d y : Slc} {cs ys : List Value} {o : Nat}
theorem Hp.cpy (T : SlT P t e 1 bytes z) [h : TakeS s A e 1 cs F] (H : Hp w0 w A) (hy : Cel w y 1 ys) (h1 : ∀ u ∈ ys, u.oneCell' = true) (hd : 0 < d.l → ∀ p, s.a = some p → d.a = some (p.add o)) (hl : o + d.l ≤ cs.length) {K : Int → World → Prop}
    (k : ∀ w', Hp w0 w' (star (Asn.own e 1 s (cs.take o ++ ys.take (min y.l d.l) ++ cs.drop (o + min y.l d.l))) F) → K ((min y.l d.l : Nat) : Int) w') : Cpy P t t ty w d.v y.v K :=
  H.isOwn.cpy T hy h1 hd hl fun w' hO f => k w' ((H.own s).step fun S _hS hp => ⟨s.blks, S, fun k hk => (hp.1 k).2 hk, f, ⟨hp.1, hO⟩, fun _k hk => .inl hk⟩)
end
/-! ## Reading -/
section
variable {w : World} {s : Slc} {α : Type} {g : α → Value} {xs : List α} {i : Nat}
theorem Cel.at' (h : Cel w s 1 (xs.map g)) (hi : i < xs.length) {a : Addr} (ha : s.a = some a) : w.cell? (a.add (Int.toNat (i : Int) * 1)) = some (g xs[i]) := by
  obtain ⟨p, hp, hc⟩ := h.at_ i (g xs[i]) (by rw [List.getElem?_map, List.getElem?_eq_getElem hi]; rfl)
  rw [ha] at hp
  injection hp with hp
  subst hp
  rw [Int.toNat_natCast, Nat.mul_one]
  exact hc
theorem Cel.lenM (h : Cel w s 1 (xs.map g)) : s.l = xs.length := by have := h.len; simp at this; omega
theorem Cel.rd (h : Cel w s 1 (xs.map g)) (hi : i < xs.length) {Q : Addr → Prop} (k : ∀ a, s.a = some a → w.cell? (a.add (Int.toNat (i : Int) * 1)) = some (g xs[i]) → Q a) : ∃ a : Addr, s.a = some a ∧ (0 : Int) ≤ (i : Int) ∧ ((i : Nat) : Int) < s.l ∧ Q a := by
  obtain ⟨p, hp, hc⟩ := h.at_ i (g xs[i]) (by rw [List.getElem?_map, List.getElem?_eq_getElem hi]; rfl)
  refine ⟨p, hp, by omega, by rw [h.lenM]; omega, k p hp (h.at' hi hp)⟩
end
section
variable {w : World} {s : Slc}
theorem Cel.rdS {rs : List (Slc × List UInt8)} {i : Nat} (h : Cel w s 1 (rs.map fun r => r.1.v)) (hi : i < rs.length) {Q : Addr → Slc → Prop} (k : ∀ a, s.a = some a → Q a rs[i].1) : ∃ a : Addr, s.a = some a ∧ (0 : Int) ≤ (i : Int) ∧ ((i : Nat) : Int) < s.l ∧ ∃ l : Slc, w.cell? (a.add (Int.toNat (i : Int) * 1)) = some l.v ∧ Q a l :=
  h.rd hi fun a ha hc => ⟨rs[i].1, hc, k a ha⟩
theorem Byt.rd {bs : List UInt8} {i : Nat} (h : Byt w s bs) (hi : i < bs.length) {Q : Addr → Int → Prop} (k : ∀ a, s.a = some a → Q a ((bs[i].toNat : Nat) : Int)) : ∃ a : Addr, s.a = some a ∧ (0 : Int) ≤ (i : Int) ∧ ((i : Nat) : Int) < s.l ∧ ∃ l : Int, w.cell? (a.add (Int.toNat (i : Int) * 1)) = some (.int .u8 l) ∧ Q a l :=
  Cel.rd h hi fun a ha hc => ⟨_, hc, k a ha⟩
theorem Hp.wr {w0 : World} {A F : Asn} {e : Nat} {cs : List Value} {i : Nat} [h : TakeS s A e 1 cs F] (H : Hp w0 w A) (hi : i < cs.length) {v : Value} {K : World → Prop} (k : ∀ w', Hp w0 w' (star (Asn.own e 1 s (cs.set i v)) F) → K w') :
    ∃ a : Addr, s.a = some a ∧ (0 : Int) ≤ (i : Int) ∧ ((i : Nat) : Int) < s.l ∧ Sto w (a.add (Int.toNat (i : Int) * 1)) v K := by
  have hc := H.cel (s := s)
  obtain ⟨p, hp, _⟩ := hc.get hi
  have := hc.len
  refine ⟨p, hp, by omega, by omega, ?_⟩
  rw [Int.toNat_natCast, Nat.mul_one]
  exact H.stoS (s := s) hi hp k
end
namespace Asn
theorem all_at {α : Type} (f : α → Asn) : ∀ (l : List α) (k : Nat) (h : k < l.length), Ent (all f l) (star (f l[k]) (all f (l.take k ++ l.drop (k + 1))))
  | [], k, h => by simp at h
  | x :: l, 0, _ => Ent.refl _
  | x :: l, k + 1, h => (Ent.star (Ent.refl _) (all_at f l k (by simpa using h))).trans left
theorem all_put {α : Type} (f : α → Asn) (y : α) : ∀ (l : List α) (k : Nat), k < l.length → Ent (star (f y) (all f (l.take k ++ l.drop (k + 1)))) (all f (l.set k y))
  | [], k, h => by simp at h
  | x :: l, 0, _ => Ent.refl _
  | x :: l, k + 1, h => left.trans (Ent.star (Ent.refl _) (all_put f y l k (by simpa using h)))
theorem all_prm {α : Type} {f : α → Asn} {l l' : List α} (h : l.Perm l') : Ent (all f l) (all f l') := by
  induction h with
  | nil => exact Ent.refl _
  | cons x _ ih => exact Ent.star (Ent.refl _) ih
  | swap x y l => exact left
  | trans _ _ ih1 ih2 => exact ih1.trans ih2
theorem all_snoc {α : Type} (f : α → Asn) (x : α) (l : List α) : Ent (star (f x) (all f l)) (all f (l ++ [x])) := all_prm (List.perm_append_singleton x l).symm
end Asn
end Go.Vc

namespace Go.Gf
def ent (R : List (List UInt8)) : Go.Gf.Mat := fun i c => (R.getD i []).getD c 0
structure Shp (R : List (List UInt8)) (m n : Nat) : Prop where
  len : R.length = m
  row : ∀ r ∈ R, r.length = n
theorem Shp.at_ {R : List (List UInt8)} {m n : Nat} (h : Shp R m n) {i : Nat} (hi : i < R.length) : R[i].length = n := h.row _ (List.getElem_mem hi)
theorem Shp.set {R : List (List UInt8)} {m n : Nat} (h : Shp R m n) {i : Nat} {r : List UInt8} (hr : r.length = n) : Shp (R.set i r) m n :=
  ⟨by rw [List.length_set]; exact h.len, fun x hx => (List.mem_or_eq_of_mem_set hx).elim (h.row x) fun e => e ▸ hr⟩
theorem ent_at {R : List (List UInt8)} {i : Nat} (hi : i < R.length) (c : Nat) : ent R i c = R[i].getD c 0 := by
  unfold ent; rw [List.getD_eq_getElem?_getD (l := R), List.getElem?_eq_getElem hi]; rfl
theorem ent_at2 {R : List (List UInt8)} {i c : Nat} (hi : i < R.length) (hc : c < R[i].length) : ent R i c = R[i][c] := by
  rw [ent_at hi, List.getD_eq_getElem?_getD, List.getElem?_eq_getElem hc]; rfl
theorem ent_set {R : List (List UInt8)} {i : Nat} {r : List UInt8} (hi : i < R.length) (j c : Nat) : ent (R.set i r) j c = if j = i then r.getD c 0 else ent R j c := by
  unfold ent
  rw [List.getD_eq_getElem?_getD (l := R.set i r), List.getElem?_set]
  by_cases h : i = j
  · subst h
    rw [if_pos rfl, if_pos hi, if_pos rfl]; rfl
  · rw [if_neg h, if_neg (Ne.symm h), List.getD_eq_getElem?_getD (l := R)]
theorem ent_blank (m n i c : Nat) : ent (List.replicate m (List.replicate n 0)) i c = 0 := by
  unfold ent
  rw [List.getD_eq_getElem?_getD (l := List.replicate m _), List.getElem?_replicate]
  split
  · rw [Option.getD_some, List.getD_eq_getElem?_getD, List.getElem?_replicate]; split <;> rfl
  · rfl
theorem Shp.blank (m n : Nat) : Shp (List.replicate m (List.replicate n 0)) m n := ⟨by simp, fun r hr => by rw [List.eq_of_mem_replicate hr]; simp⟩
theorem list_ext {l k : List UInt8} (h : l.length = k.length) (h2 : ∀ c, c < l.length → l.getD c 0 = k.getD c 0) : l = k := by
  apply List.ext_getElem h
  intro i h3 h4
  have := h2 i h3
  rwa [List.getD_eq_getElem?_getD, List.getElem?_eq_getElem h3, List.getD_eq_getElem?_getD, List.getElem?_eq_getElem h4] at this
theorem ent_ext {R Q : List (List UInt8)} {m n : Nat} (h : Shp R m n) (h' : Shp Q m n) (e : ∀ i c, i < m → c < n → ent R i c = ent Q i c) : R = Q := by
  apply List.ext_getElem (by rw [h.len, h'.len])
  intro i h1 h2
  refine list_ext (by rw [h.at_, h'.at_]) fun c hc => ?_
  rw [← ent_at h1, ← ent_at h2]
  exact e i c (by rw [← h.len]; exact h1) (by rw [← h.at_ h1]; exact hc)
theorem addR_len {c : UInt8} {bs xs : List UInt8} (h : xs.length = bs.length) : (addR c bs xs).length = bs.length := by unfold addR; rw [List.length_zipWith]; omega
theorem addR_at {c : UInt8} {bs xs : List UInt8} (h : xs.length = bs.length) (j : Nat) : (addR c bs xs).getD j 0 = bs.getD j 0 ^^^ mul c (xs.getD j 0) := by
  unfold addR
  simp only [List.getD_eq_getElem?_getD, List.getElem?_zipWith]
  by_cases hj : j < bs.length
  · rw [List.getElem?_eq_getElem hj, List.getElem?_eq_getElem (by omega)]; rfl
  · rw [List.getElem?_eq_none (by omega), List.getElem?_eq_none (by omega)]
    simp [mul_zero]
end Go.Gf
namespace Go.Proofs.YtabifopphhpciaaGreatDoor
open Go Go.Vc Go.Vc.Asn Go.Gf
abbrev mt (rs : Rws) : List (List UInt8) := rs.map fun r => r.2
def upd (rs : Rws) (i : Nat) (bs : List UInt8) : Rws := rs.set i ((rs.getD i (Slc.nil, [])).1, bs)
theorem upd_at {rs : Rws} {i : Nat} (hi : i < rs.length) (bs : List UInt8) : upd rs i bs = rs.set i (rs[i].1, bs) := by
  unfold upd; rw [List.getD_eq_getElem?_getD, List.getElem?_eq_getElem hi]; rfl
theorem upd_mt {rs : Rws} (i : Nat) (bs : List UInt8) : mt (upd rs i bs) = (mt rs).set i bs := by unfold mt upd; rw [List.map_set]
theorem upd_sl {rs : Rws} (i : Nat) (bs : List UInt8) : (upd rs i bs).map (fun r => r.1.v) = rs.map fun r => r.1.v := by
  by_cases hi : i < rs.length
  · rw [upd_at hi, List.map_set]
    apply List.ext_getElem?
    intro j
    rw [List.getElem?_set]
    by_cases hj : i = j
    · subst hj
      rw [if_pos rfl, if_pos (by simpa using hi), List.getElem?_map, List.getElem?_eq_getElem hi]; rfl
    · rw [if_neg hj]
  · unfold upd; rw [List.set_eq_of_length_le (by omega)]
structure RdR (w : World) (s : Slc) (rs : Rws) : Prop where
  cel : Cel w s 1 (rs.map fun r => r.1.v)
  row : ∀ r ∈ rs, Byt w r.1 r.2
theorem RdR.fr0 {w w' : World} {s : Slc} {rs : Rws} (h : RdR w s rs) (f : Fr [] w w') : RdR w' s rs := ⟨h.cel.fr0 f, fun r hr => (h.row r hr).fr0 f⟩
theorem RdR.at_ {w : World} {s : Slc} {rs : Rws} (h : RdR w s rs) {i : Nat} (hi : i < rs.length) : Byt w rs[i].1 rs[i].2 := h.row _ (List.getElem_mem hi)
section
variable {w0 w : World} {A F : Asn} {s : Slc} {rs : Rws}
theorem rowsHave : ∀ {rs : Rws} {S : Nat → Prop}, (all rwA rs).p w S → ∀ r ∈ rs, Byt w r.1 r.2
  | [], _, _ => fun r hr => nomatch hr
  | x :: l, S, h => fun r hr => by
    obtain ⟨S1, S2, _, _, h1, h2⟩ := h
    rcases List.mem_cons.1 hr with rfl | hr
    · exact Own.cel h1.2
    · exact rowsHave (S := S2) h2 r hr
theorem rowsOf [h : Take (all rwA rs) A F] (H : Hp w0 w A) : ∀ r ∈ rs, Byt w r.1 r.2 := by
  obtain ⟨_, S, _, S1, S2, _, _, h1, _⟩ := H.take (all rwA rs)
  exact rowsHave (S := S1) h1
theorem rdR (H : Hp w0 w (star (own Ty_sl_uint8 1 s (rs.map fun r => r.1.v)) (star (all rwA rs) F))) : RdR w s rs := ⟨H.cel (s := s), rowsOf (rs := rs) H⟩
theorem wrRow (rs : Rws) [h : Take (all rwA rs) A F] (H : Hp w0 w A) {i j : Nat} (hi : i < rs.length) (hj : j < rs[i].2.length) {v : UInt8} {K : World → Prop} (k : ∀ w', Hp w0 w' (star (all rwA (upd rs i (rs[i].2.set j v))) F) → K w') :
    ∃ a : Addr, rs[i].1.a = some a ∧ (0 : Int) ≤ (j : Int) ∧ ((j : Nat) : Int) < rs[i].1.l ∧ Sto w (a.add (Int.toNat (j : Int) * 1)) (u8v v) K := by
  have H := (H.take (all rwA rs)).ent (Ent.star (all_at rwA rs i hi) (Ent.refl _))
  have H : Hp w0 w (star (own Ty_uint8 1 rs[i].1 (rs[i].2.map u8v)) _) := H.assoc
  refine Hp.wr (s := rs[i].1) H (by simpa using hj) fun w' H => k w' ?_
  rw [← List.map_set] at H
  rw [upd_at hi]
  exact H.assoc'.ent (Ent.star (all_put rwA (rs[i].1, rs[i].2.set j v) rs i hi) (Ent.refl _))
theorem pickRow (rs : Rws) [h : Take (all rwA rs) A F] (H : Hp w0 w A) {i : Nat} (hi : i < rs.length) : Hp w0 w (star (own Ty_uint8 1 rs[i].1 (rs[i].2.map u8v)) (star (all rwA (rs.take i ++ rs.drop (i + 1))) F)) :=
  ((H.take (all rwA rs)).ent (Ent.star (all_at rwA rs i hi) (Ent.refl _))).assoc
theorem putRow {i : Nat} (hi : i < rs.length) {bs : List UInt8} (H : Hp w0 w (star (own Ty_uint8 1 rs[i].1 (bs.map u8v)) (star (all rwA (rs.take i ++ rs.drop (i + 1))) F))) : Hp w0 w (star (all rwA (upd rs i bs)) F) := by
  rw [upd_at hi]
  exact (H.assoc').ent (Ent.star (all_put rwA (rs[i].1, bs) rs i hi) (Ent.refl _))
end
end Go.Proofs.YtabifopphhpciaaGreatDoor

namespace Go.Proofs.YtabifopphhpciaaGreatDoor
open Go Go.Vc Go.Vc.Asn Go.Gf
theorem ofW (n : Nat) (h : n < 4611686018427387904) : wr .i64 ((n : Int) + 1) = ((n + 1 : Nat) : Int) := by rw [wr64 (by omega) (by omega)]; omega
section
variable {w0 w : World} {F : Asn} {q : Nat} {f : Option Addr} {s : Slc} {rs : Rws}
theorem matOpen (H : Hp w0 w (star (matA q f s rs) F)) : Hp w0 w (star (bk q Ty_matrix_Matrix #[.pointer f, s.v]) (star (own Ty_sl_uint8 1 s (rs.map fun r => r.1.v)) (star (all rwA rs) F))) := by
  have H : Hp w0 w (star (bk q Ty_matrix_Matrix #[.pointer f, s.v]) (star (star (own Ty_sl_uint8 1 s (rs.map fun r => r.1.v)) (all rwA rs)) F)) := H.assoc
  exact H.ent (Ent.star (Ent.refl _) Asn.assoc)
theorem matClose (H : Hp w0 w (star (bk q Ty_matrix_Matrix #[.pointer f, s.v]) (star (own Ty_sl_uint8 1 s (rs.map fun r => r.1.v)) (star (all rwA rs) F)))) : Hp w0 w (star (matA q f s rs) F) :=
  (H.ent (Ent.star (Ent.refl _) Asn.assoc')).assoc'
theorem sized_c {p : Addr} {m n : Nat} (hm : 1 ≤ m) (hm2 : m ≤ 256) (hn : 1 ≤ n) (hn2 : n ≤ 256) : Calls PP F_matrix_sized #[.pointer (some p), .int .i64 (m : Int), .int .i64 (n : Int)] w (Rt fun v w' => v = .int .i64 0 ∧ w' = w) := by
  refine sim_matrix_sized _ _ _ _ _ ?_
  unfold vc_matrix_sized
  refine ⟨fun h => by simp at h, fun _ => ⟨fun h => ?_, fun _ => ⟨fun h => ?_, fun _ => Rt.ok ⟨rfl, rfl⟩⟩⟩⟩
  · simp at h; omega
  · simp at h; omega
structure RdM (w : World) (q : Nat) (f : Option Addr) (s : Slc) (rs : Rws) : Prop where
  box : Blk w q Ty_matrix_Matrix #[.pointer f, s.v]
  rows : RdR w s rs
theorem RdM.fr0 {w w' : World} (h : RdM w q f s rs) (g : Fr [] w w') : RdM w' q f s rs := ⟨h.box.fr g (by simp), h.rows.fr0 g⟩
theorem rdM (H : Hp w0 w (star (matA q f s rs) F)) : RdM w q f s rs := ⟨(matOpen H).isBlk (b := q), rdR (matOpen H).drop⟩
theorem vander_c {g k : Nat} {ps : Slc} {pb : List UInt8} (hK : Blk w g Ty_gf_Field fieldL.toArray) (hp : Byt w ps pb) (hm : 1 ≤ pb.length) (hm2 : pb.length ≤ 256) (hk : 1 ≤ k) (hk2 : k ≤ 256) :
    Calls PP F_matrix_Vandermonde #[.pointer (some (blk g)), ps.v, .int .i64 (k : Int)] w (Rt fun v w' => ∃ q s rs, v = .tuple #[.pointer (some (blk q)), .int .i64 0] ∧ Shp (mt rs) pb.length k ∧ (∀ i c, i < pb.length → c < k → ent (mt rs) i c = powX (pb.getD i 0) c) ∧ Hp w w' (star (matA q (some (blk g)) s rs) emp)) := by
  refine sim_matrix_Vandermonde _ _ _ _ _ ?_
  unfold vc_matrix_Vandermonde
  have hpl := hp.len
  refine call (sized_c (m := ps.l) (by omega) (by omega) hk hk2) ?_
  rintro _ w1 ⟨rfl, rfl⟩
  refine ⟨_, rfl, fun h => by simp at h, fun _ => ?_⟩
  refine call (blank_c (by omega) (by omega) (Hp.start w1)) ?_
  rintro _ w2 ⟨q, s, rs0, rfl, hrs0, H⟩
  have hS0 : Shp (mt rs0) pb.length k := by unfold mt; rw [hrs0, hpl]; exact Shp.blank _ _
  refine ⟨_, rfl, fun i w' => ∃ (j : Nat) (rs : Rws), i = (j : Int) ∧ j ≤ pb.length ∧ Shp (mt rs) pb.length k ∧ (∀ i c, i < j → c < k → ent (mt rs) i c = powX (pb.getD i 0) c) ∧ Hp w1 w' (star (bk q Ty_matrix_Matrix #[.pointer (some (blk g)), s.v]) (star (own Ty_sl_uint8 1 s (rs.map fun r => r.1.v)) (star (all rwA rs) emp))), fun i _ => pb.length - i.toNat, ⟨0, rs0, rfl, Nat.zero_le _, hS0, fun i c hi => by omega, matOpen H⟩, ?_⟩
  rintro _ w3 ⟨j, rs, rfl, hj, hS, hent, H⟩
  have hrl : rs.length = pb.length := by have := hS.len; simpa using this
  refine ⟨fun h => ?_, fun h => ?_⟩
  · have hlt : j < pb.length := by simp only [decide_eq_true_eq] at h; omega
    refine ⟨fun w' => ∃ (rs : Rws), Shp (mt rs) pb.length k ∧ (∀ i c, i < j + 1 → c < k → ent (mt rs) i c = powX (pb.getD i 0) c) ∧ Hp w1 w' (star (bk q Ty_matrix_Matrix #[.pointer (some (blk g)), s.v]) (star (own Ty_sl_uint8 1 s (rs.map fun r => r.1.v)) (star (all rwA rs) emp))), ?_, ?_⟩
    · refine (hp.fr0 H.fr).rd hlt fun a ha => ⟨blk q, rfl, s, H.cell (b := q) (i := 1) rfl, ?_⟩
      have hjr : j < rs.length := by omega
      have hrow : rs[j].2.length = k := hS.row _ (List.mem_map_of_mem (List.getElem_mem hjr))
      refine (rdR H.drop).cel.rdS hjr fun a2 ha2 => ?_
      refine wrRow rs (j := 0) (v := 1) H hjr (by omega) fun w4 H => ?_
      have e1 : pb[j] = pb.getD j 0 := by rw [List.getD_eq_getElem?_getD, List.getElem?_eq_getElem hlt]; rfl
      refine ⟨fun c w' => ∃ (t : Nat) (rs : Rws), c = (t : Int) ∧ 1 ≤ t ∧ t ≤ k ∧ Shp (mt rs) pb.length k ∧ (∀ i c, i < j → c < k → ent (mt rs) i c = powX (pb.getD i 0) c) ∧ (∀ c, c < t → ent (mt rs) j c = powX (pb.getD j 0) c) ∧ Hp w1 w' (star (bk q Ty_matrix_Matrix #[.pointer (some (blk g)), s.v]) (star (own Ty_sl_uint8 1 s (rs.map fun r => r.1.v)) (star (all rwA rs) emp))), fun c _ => k - c.toNat, ⟨1, upd rs j (rs[j].2.set 0 1), rfl, Nat.le_refl _, hk, ?_, ?_, ?_, ?_⟩, ?_⟩
      · rw [upd_mt]; exact hS.set (by rw [List.length_set]; exact hrow)
      · intro i c hi hc
        rw [upd_mt, ent_set (by simpa using hjr), if_neg (by omega)]
        exact hent i c hi hc
      · intro c hc
        have : c = 0 := by omega
        subst this
        rw [upd_mt, ent_set (by simpa using hjr), if_pos rfl, List.getD_eq_getElem?_getD, List.getElem?_set, if_pos rfl, if_pos (by omega)]
        rfl
      · rw [upd_sl]
        exact (H.own s).blk q
      rintro _ w5 ⟨t, rs, rfl, ht1, htk, hS, hent, hrw, H⟩
      have hrl : rs.length = pb.length := by have := hS.len; simpa using this
      have hjr : j < rs.length := by omega
      have hrow : rs[j].2.length = k := hS.row _ (List.mem_map_of_mem (List.getElem_mem hjr))
      refine ⟨fun h => ?_, fun h => ?_⟩
      · have htlt : t < k := by simp only [decide_eq_true_eq] at h; omega
        have ewm : wr .i64 ((t : Int) - 1) = ((t - 1 : Nat) : Int) := by rw [wr64 (by omega) (by omega)]; omega
        have H := H.drew 1
        have hR := rdR H.drop
        rw [ewm, ofW t (by omega)]
        refine ⟨s, H.cell (b := q) (i := 1) rfl, hR.cel.rdS hjr fun a3 ha3 => ⟨s, H.cell (b := q) (i := 1) rfl, hR.cel.rdS hjr fun a4 ha4 => (hR.at_ hjr).rd (by omega) fun a5 ha5 => ?_⟩⟩
        refine call (mul_c (f := g) _ _ (hK.fr H.fr (by simp))) ?_
        rintro _ w6 ⟨rfl, f6⟩
        have H := H.fr0 f6
        have hR := rdR H.drop
        refine ⟨_, rfl, H.cell (b := q) (i := 1) rfl, hR.cel.at' hjr ha3, wrRow rs (j := t) H hjr (by omega) fun w7 H => ?_⟩
        refine ⟨⟨t + 1, upd rs j (rs[j].2.set t (mul (rs[j].2[t - 1]'(by omega)) pb[j])), rfl, by omega, by omega, ?_, ?_, ?_, ?_⟩, by dsimp only; omega⟩
        · rw [upd_mt]; exact hS.set (by rw [List.length_set]; exact hrow)
        · intro i c hi hc
          rw [upd_mt, ent_set (by simpa using hjr), if_neg (by omega)]
          exact hent i c hi hc
        · intro c hc
          rw [upd_mt, ent_set (by simpa using hjr), if_pos rfl, List.getD_eq_getElem?_getD, List.getElem?_set]
          have hm1 : (mt rs)[j]'(by simpa using hjr) = rs[j].2 := by simp [mt]
          by_cases h2 : t = c
          · subst h2
            rw [if_pos rfl, if_pos (by omega)]
            have h3 := hrw (t - 1) (by omega)
            rw [ent_at (by simpa using hjr), hm1, List.getD_eq_getElem?_getD, List.getElem?_eq_getElem (by omega)] at h3
            have h3 : rs[j].2[t - 1]'(by omega) = powX (pb.getD j 0) (t - 1) := h3
            show mul _ _ = _
            rw [h3, e1, show t = (t - 1) + 1 by omega]
            rfl
          · rw [if_neg h2, ← List.getD_eq_getElem?_getD, ← hm1, ← ent_at (by simpa using hjr)]
            exact hrw c (by omega)
        · rw [upd_sl]
          exact (H.own s).blk q
      · have hte : t = k := by simp only [decide_eq_false_iff_not] at h; omega
        subst hte
        refine ⟨rs, hS, fun i c hi hc => ?_, H⟩
        by_cases hij : i = j
        · subst hij; exact hrw c hc
        · exact hent i c (by omega) hc
    · rintro w4 ⟨rs, hS, hent, H⟩
      rw [ofW j (by omega)]
      exact ⟨⟨j + 1, rs, rfl, by omega, hS, hent, H⟩, by dsimp only; omega⟩
  · have hje : j = pb.length := by simp only [decide_eq_false_iff_not] at h; omega
    subst hje
    exact Rt.ok ⟨q, s, rs, rfl, hS, hent, matClose H⟩
end
end Go.Proofs.YtabifopphhpciaaGreatDoor

namespace Go.Vc
open Go Go.Vc.Asn
theorem Own.cap {e : Nat} {w : World} {b l n : Nat} {z : Value} (hb : Blk w b e (List.replicate n z).toArray) (hl : l ≤ n) (hm : n ≤ maxLen) : Own e 1 w ⟨some (blk b), l, n⟩ (List.replicate l z) :=
  ⟨by simp, .inr ⟨b, n, _, rfl, Nat.zero_le _, hb, hl, hm, by simp, by simp; omega⟩⟩
theorem Hp.makeCap {P : Program} {t e bytes l n : Nat} {z : Value} (T : SlT P t e 1 bytes z) (hz : z.cells = #[z]) {w0 w : World} {A : Asn} {K : Slc → World → Prop} (hb : bytes * n ≤ 281474976710656) (hn : n ≤ 16777216) (hl : l ≤ n) (H : Hp w0 w A)
    (k : ∀ b w', Hp w0 w' (star (Asn.own e 1 ⟨some (Vc.blk b), l, n⟩ (List.replicate l z)) A) → K ⟨some (Vc.blk b), l, n⟩ w') : Mk P t w (.int .i64 (l : Int)) (.int .i64 (n : Int)) K := by
  cases hi : P.info? e with
  | none => have := T.info; rw [hi] at this; simp at this
  | some i =>
    have hinfo := T.info
    rw [hi] at hinfo
    simp only [Option.map_some, Option.some.injEq, Prod.mk.injEq] at hinfo
    obtain ⟨h1, h2, h3⟩ := hinfo
    have hb2 : (bytes : Int) * (n : Int) ≤ 281474976710656 := by
      have h : ((bytes * n : Nat) : Int) ≤ 281474976710656 := by omega
      rwa [Int.natCast_mul] at h
    have hr := run_makeSlice (P := P) (w := w) t e i z T.ut hi h1 .i64 .i64 (l : Int) (n : Int) (by omega) (by omega) (by rw [h2]; omega) (by rw [h3]; exact hb2) (by omega)
    refine ⟨⟨some (Vc.blk w.heap.size), l, n⟩, _, hr, ?_⟩
    simp only [Int.toNat_natCast]
    rw [h2, made_one hz]
    exact k _ _ (H.beside ⟨NewBlk.fr (cs := (List.replicate n z).toArray) (e := e) (b := w.heap.size) ⟨rfl, rfl⟩, fun x => x = w.heap.size, fun x hx => by rw [hx]; exact Nat.le_refl _, fun x => by simp [Slc.blks], Own.cap (NewBlk.blk ⟨rfl, rfl⟩) hl (by unfold maxLen; omega)⟩)
end Go.Vc
namespace Go.Proofs.YtabifopphhpciaaGreatDoor
open Go Go.Vc Go.Vc.Asn Go.Gf
section
variable {w0 w : World} {F : Asn} {q : Nat} {f : Option Addr} {s : Slc} {rs : Rws}
theorem fieldL_zero : fieldL.toArray[0]? = some (.int .i64 285) := by
  rw [List.getElem?_toArray]; unfold fieldL; exact List.getElem?_cons_zero
theorem poly_c {g : Nat} (hK : Blk w g Ty_gf_Field fieldL.toArray) : Calls PP F_gf_Field_Poly #[.pointer (some (blk g))] w (Rt fun v w' => v = .int .i64 285 ∧ w' = w) := by
  refine sim_gf_Field_Poly _ _ _ ?_
  unfold vc_gf_Field_Poly
  exact ⟨fun h => by simp at h, fun _ => ⟨_, rfl, 285, hK.cell (i := 0) fieldL_zero, Rt.ok ⟨rfl, rfl⟩⟩⟩
theorem mul_mat_c {g q1 q2 m n l : Nat} {s1 s2 : Slc} {rs1 rs2 : Rws} (hK : Blk w g Ty_gf_Field fieldL.toArray) (h1 : RdM w q1 (some (blk g)) s1 rs1) (h2 : RdM w q2 (some (blk g)) s2 rs2) (hs1 : Shp (mt rs1) m n) (hs2 : Shp (mt rs2) n l)
    (hm : 1 ≤ m) (hm2 : m ≤ 256) (hn : 1 ≤ n) (hn2 : n ≤ 256) (hl2 : l ≤ 256) :
    Calls PP F_matrix_Matrix_Mul #[.pointer (some (blk q1)), .pointer (some (blk q2))] w (Rt fun v w' => ∃ q s rs, v = .tuple #[.pointer (some (blk q)), .int .i64 0] ∧ Shp (mt rs) m l ∧ (∀ i c, i < m → c < l → ent (mt rs) i c = dot n (ent (mt rs1) i) fun j => ent (mt rs2) j c) ∧ Hp w w' (star (matA q (some (blk g)) s rs) emp)) := by
  refine sim_matrix_Matrix_Mul _ _ _ _ ?_
  unfold vc_matrix_Matrix_Mul
  have hl1 : rs1.length = m := by have := hs1.len; simpa using this
  have hl2' : rs2.length = n := by have := hs2.len; simpa using this
  have r1 : ∀ i (hi : i < rs1.length), rs1[i].2.length = n := fun i hi => hs1.row _ (List.mem_map_of_mem (List.getElem_mem hi))
  have r2 : ∀ i (hi : i < rs2.length), rs2[i].2.length = l := fun i hi => hs2.row _ (List.mem_map_of_mem (List.getElem_mem hi))
  refine ⟨fun h => by simp at h, fun _ => ⟨fun b w' => b = false ∧ Fr [] w w', ⟨fun h => by simp at h, fun _ => ?_⟩, ?_⟩⟩
  · have f1 : Fr [] w (w.drewN 1) := ((Hp.start w).drew 1).fr
    refine ⟨_, rfl, some (blk g), ((h2.fr0 f1).box.cell (i := 0) rfl), _, rfl, some (blk g), ((h1.fr0 f1).box.cell (i := 0) rfl), ?_⟩
    refine call (poly_c (hK.fr f1 (by simp))) ?_
    rintro _ w1 ⟨rfl, rfl⟩
    refine ⟨_, rfl, ((h1.fr0 f1).box.cell (i := 0) rfl), call (poly_c (hK.fr f1 (by simp))) ?_⟩
    rintro _ w1 ⟨rfl, rfl⟩
    exact ⟨_, rfl, rfl, f1⟩
  · rintro _ w12 ⟨rfl, f12⟩
    refine ⟨fun h => by simp at h, fun _ => ⟨_, rfl, s1, (h1.fr0 f12).box.cell (i := 1) rfl, (h1.fr0 f12).rows.cel.rdS (i := 0) (by omega) fun a ha => ⟨_, rfl, s2, (h2.fr0 f12).box.cell (i := 1) rfl, fun k => ⟨fun h => ?_, fun _ => ?_⟩⟩⟩⟩
    · have e1 := ((h1.fr0 f12).rows.at_ (i := 0) (by omega)).len
      have e2 := (h2.rows.cel).lenM
      rw [e1, e2, r1 0 (by omega)] at h
      simp at h
      omega
    have H := (((Hp.start w).fr0 f12).drew k).drew 1
    have h1' := h1.fr0 H.fr
    have h2' := h2.fr0 H.fr
    refine ⟨some (blk g), h1'.box.cell (i := 0) rfl, s1, h1'.box.cell (i := 1) rfl, s2, h2'.box.cell (i := 1) rfl, h2'.rows.cel.rdS (i := 0) (by omega) fun a2 ha2 => ?_⟩
    have e1 := h1.rows.cel.lenM
    have e2 := (h2'.rows.at_ (i := 0) (by omega)).len
    rw [r2 0 (by omega)] at e2
    refine call (blank_c (by omega) (by omega) H) ?_
    rintro _ w2 ⟨q, s, rs0, rfl, hrs0, H⟩
    rw [e1, e2, hl1] at hrs0
    have hS0 : Shp (mt rs0) m l := by unfold mt; rw [hrs0]; exact Shp.blank _ _
    have hZ0 : ∀ i c, ent (mt rs0) i c = 0 := fun i c => by unfold mt; rw [hrs0]; exact ent_blank _ _ _ _
    refine ⟨_, rfl, s1, (h1.fr0 H.fr).box.cell (i := 1) rfl, fun i w' => ∃ (j : Nat) (rs : Rws), i = (j : Int) ∧ j ≤ m ∧ Shp (mt rs) m l ∧ (∀ i c, i < j → c < l → ent (mt rs) i c = dot n (ent (mt rs1) i) fun j => ent (mt rs2) j c) ∧ (∀ i c, j ≤ i → ent (mt rs) i c = 0) ∧ Hp w w' (star (bk q Ty_matrix_Matrix #[.pointer (some (blk g)), s.v]) (star (own Ty_sl_uint8 1 s (rs.map fun r => r.1.v)) (star (all rwA rs) emp))), fun i _ => m - i.toNat, ⟨0, rs0, rfl, Nat.zero_le _, hS0, fun i c hi => by omega, fun i c _ => hZ0 i c, matOpen H⟩, ?_⟩
    rintro _ w3 ⟨j, rs, rfl, hj, hS, hent, hz, H⟩
    have hrl : rs.length = m := by have := hS.len; simpa using this
    refine ⟨fun h => ?_, fun h => ?_⟩
    · have hlt : j < m := by simp only [decide_eq_true_eq] at h; omega
      refine ⟨fun w' => ∃ (rs : Rws), Shp (mt rs) m l ∧ (∀ i c, i < j + 1 → c < l → ent (mt rs) i c = dot n (ent (mt rs1) i) fun j => ent (mt rs2) j c) ∧ (∀ i c, j + 1 ≤ i → ent (mt rs) i c = 0) ∧ Hp w w' (star (bk q Ty_matrix_Matrix #[.pointer (some (blk g)), s.v]) (star (own Ty_sl_uint8 1 s (rs.map fun r => r.1.v)) (star (all rwA rs) emp))), ?_, ?_⟩
      · refine (h1.fr0 H.fr).rows.cel.rdS (by omega) fun a3 ha3 => ?_
        refine ⟨fun c w' => ∃ (t : Nat) (rs : Rws), c = (t : Int) ∧ t ≤ n ∧ Shp (mt rs) m l ∧ (∀ i c, i < j → c < l → ent (mt rs) i c = dot n (ent (mt rs1) i) fun j => ent (mt rs2) j c) ∧ (∀ i c, j + 1 ≤ i → ent (mt rs) i c = 0) ∧ (∀ c, c < l → ent (mt rs) j c = sumX t fun x => mul (ent (mt rs1) j x) (ent (mt rs2) x c)) ∧ Hp w w' (star (bk q Ty_matrix_Matrix #[.pointer (some (blk g)), s.v]) (star (own Ty_sl_uint8 1 s (rs.map fun r => r.1.v)) (star (all rwA rs) emp))), fun c _ => n - c.toNat, ⟨0, rs, rfl, Nat.zero_le _, hS, hent, fun i c hi => hz i c (by omega), fun c _ => hz j c (Nat.le_refl _), H⟩, ?_⟩
        rintro _ w5 ⟨t, rs, rfl, htn, hS, hent, hz, hrw, H⟩
        have hrl : rs.length = m := by have := hS.len; simpa using this
        have hjr : j < rs.length := by omega
        have hrow : rs[j].2.length = l := hS.row _ (List.mem_map_of_mem (List.getElem_mem hjr))
        have hrd := (h1.fr0 H.fr).rows.at_ (i := j) (by omega)
        have hrdl := hrd.len
        rw [r1 j (by omega)] at hrdl
        refine ⟨fun h => ?_, fun h => ?_⟩
        · have htlt : t < n := by simp only [decide_eq_true_eq] at h; omega
          refine hrd.rd (i := t) (by rw [r1 j (by omega)]; exact htlt) fun a4 ha4 => ?_
          have H := H.drew 1
          have hR := rdR H.drop
          have hR2 := (h2.fr0 H.fr).rows
          refine ⟨_, (h1.fr0 H.fr).box.cell (i := 0) rfl, _, rfl, s, H.cell (b := q) (i := 1) rfl, hR.cel.rdS hjr fun a5 ha5 => ⟨s2, (h2.fr0 H.fr).box.cell (i := 1) rfl, hR2.cel.rdS (i := t) (by omega) fun a6 ha6 => ?_⟩⟩
          have H2 := pickRow rs H hjr
          refine call (addMul_c (p := g) (bs := rs[j].2) (xs := (rs2[t]'(by omega)).2) ((rs1[j]'(by omega)).2[t]'(by rw [r1 j (by omega)]; exact htlt)) (fun w' A X => hK.fr X.fr (by simp)) (fun w' A X => (h2.fr0 X.fr).rows.at_ (by omega)) (by rw [r2 t (by omega), hrow]) (by omega) H2) ?_
          rintro _ w6 ⟨rfl, H⟩
          have H := putRow hjr H
          rw [ofW t (by omega)]
          refine ⟨_, rfl, ⟨t + 1, _, rfl, by omega, ?_, ?_, ?_, ?_, by rw [upd_sl]; exact (H.own s).blk q⟩, by dsimp only; omega⟩
          · rw [upd_mt]; exact hS.set (by rw [addR_len (by rw [r2 t (by omega), hrow])]; exact hrow)
          · intro i c hi hc
            rw [upd_mt, ent_set (by simpa using hjr), if_neg (by omega)]
            exact hent i c hi hc
          · intro i c hi
            rw [upd_mt, ent_set (by simpa using hjr), if_neg (by omega)]
            exact hz i c hi
          · intro c hc
            have hm1 : (mt rs)[j]'(by simpa using hjr) = rs[j].2 := by simp [mt]
            rw [upd_mt, ent_set (by simpa using hjr), if_pos rfl, addR_at (by rw [r2 t (by omega), hrow]), ← hm1, ← ent_at (by simpa using hjr), hrw c hc]
            show _ = sumX t _ ^^^ mul _ _
            congr 2
            · rw [ent_at2 (by simp [mt]; omega) (by simp [mt]; rw [r1 j (by omega)]; exact htlt)]; simp [mt]
            · rw [ent_at (by simp [mt]; omega)]; simp [mt]
        · have hte : t = n := by simp only [decide_eq_false_iff_not] at h; omega
          subst hte
          refine ⟨rs, hS, fun i c hi hc => ?_, hz, H⟩
          by_cases hij : i = j
          · subst hij; exact hrw c hc
          · exact hent i c (by omega) hc
      · rintro w4 ⟨rs, hS, hent, hz, H⟩
        rw [ofW j (by omega)]
        exact ⟨⟨j + 1, rs, rfl, by omega, hS, hent, hz, H⟩, by dsimp only; omega⟩
    · have hje : j = m := by simp only [decide_eq_false_iff_not] at h; omega
      subst hje
      exact Rt.ok ⟨q, s, rs, rfl, hS, hent, matClose H⟩
end
end Go.Proofs.YtabifopphhpciaaGreatDoor

namespace Go.Vc
open Go Go.Vc.Asn
section
variable {P : Program} {t ty e bytes : Nat} {z : Value} {s : Slc} {w0 w : World} {A F : Asn} {cs : List Value}
theorem Hp.app1 (T : SlT P t e 1 bytes z) [h : TakeS s A e 1 cs F] (H : Hp w0 w A) {v : Value} (h1 : v.oneCell' = true) {K : Slc → World → Prop} (hm : s.l + 1 ≤ maxLen) (hb : (s.l + 1) * bytes ≤ 140737488355328)
    (k : ∀ s' w', Hp w0 w' (star (Asn.own e 1 s' (cs ++ [v])) F) → s'.l = s.l + 1 → K s' w') : New w #[v] e fun b w' => App P t t ty w' s.v (Slc.v (Slc.mk (some (Vc.blk b)) 1 1)) K := by
  refine (H.own s).new fun b w1 H => ?_
  have hC : Cel w1 (Slc.mk (some (Vc.blk b)) 1 1) 1 [v] := Cel.block (b := b) (e := e) (l := [v]) (H.isBlk (b := b)) rfl (Nat.le_refl _) (Nat.le_refl _)
  exact (H.drop).app (s := s) T hC (fun u hu => by simp at hu; subst hu; exact h1) hm hb fun s' w' H hl => k s' w' H hl
end
end Go.Vc
namespace Go.Proofs.YtabifopphhpciaaGreatDoor
open Go Go.Vc Go.Vc.Asn Go.Gf
theorem mt_at {rs : Rws} {j : Nat} (hj : j < rs.length) : (mt rs)[j]'(by simpa [mt] using hj) = rs[j].2 := by simp [mt]
theorem mt_len (rs : Rws) : (mt rs).length = rs.length := by simp [mt]
section
variable {w0 w : World} {F : Asn} {q : Nat} {f : Option Addr} {s : Slc} {rs : Rws}
theorem rows_c (hM : RdM w q f s rs) (hl : rs.length ≤ 1048576) (hl2 : ∀ r ∈ rs, r.2.length ≤ 1073741824) :
    Calls PP F_matrix_Matrix_Rows #[.pointer (some (blk q))] w (Rt fun v w' => ∃ s' rs', v = s'.v ∧ mt rs' = mt rs ∧ Hp w w' (star (rwsA s' rs') emp)) := by
  refine sim_matrix_Matrix_Rows _ _ _ ?_
  unfold vc_matrix_Matrix_Rows
  have hsl := hM.rows.cel.lenM
  refine ⟨fun h => by simp at h, fun _ => ⟨_, rfl, s, hM.box.cell (i := 1) rfl, ?_⟩⟩
  refine Hp.makeCap (l := 0) slT_sl_sl_uint8 rfl (by omega) (by omega) (Nat.zero_le _) (Hp.start w) fun b w1 H => ?_
  refine ⟨s, (hM.fr0 H.fr).box.cell (i := 1) rfl, fun o i w' => ∃ (j : Nat) (rs' : Rws), i = (j : Int) ∧ j ≤ rs.length ∧ mt rs' = (mt rs).take j ∧ Hp w w' (star (own Ty_sl_uint8 1 o (rs'.map fun r => r.1.v)) (star (all rwA rs') emp)), fun _ i _ => rs.length - i.toNat, ⟨0, [], rfl, Nat.zero_le _, rfl, H.ent (Ent.star (Ent.refl _) emp_l)⟩, ?_⟩
  rintro o _ w2 ⟨j, rs', rfl, hj, hrs, H⟩
  have hrl : rs'.length = j := by have := congrArg List.length hrs; simpa [Nat.min_eq_left hj] using this
  have hol := (H.cel (s := o)).lenM
  refine ⟨fun h => ?_, fun h => ?_⟩
  · have hlt : j < rs.length := by simp only [decide_eq_true_eq] at h; omega
    refine (hM.fr0 H.fr).rows.cel.rdS hlt fun a ha => ?_
    have hB := (hM.fr0 H.fr).rows.at_ hlt
    have hBl := hB.len
    have hbl := hl2 _ (List.getElem_mem hlt)
    refine Hp.app (s := Slc.nil) slT_sl_uint8 (H.nilRow Ty_uint8 1) hB (one_u8 _) (by unfold maxLen; simp only; omega) (by simp only; omega) fun s34 w3 H hs => ?_
    rw [List.nil_append] at H
    refine Hp.app1 (s := o) slT_sl_sl_uint8 H rfl (by unfold maxLen; omega) (by omega) fun s40 w4 H hs2 => ?_
    rw [ofW j (by omega)]
    refine ⟨⟨j + 1, rs' ++ [(s34, rs[j].2)], rfl, by omega, ?_, ?_⟩, by dsimp only; omega⟩
    · show (rs' ++ [_]).map _ = _
      have hrs : rs'.map (fun r => r.2) = (rs.map fun r => r.2).take j := hrs
      rw [List.map_append, hrs, List.take_add_one, List.getElem?_map, List.getElem?_eq_getElem hlt]
      rfl
    · have H : Hp w w4 (star (own Ty_sl_uint8 1 s40 (rs'.map (fun r => r.1.v) ++ [s34.v])) (star (rwA (s34, rs[j].2)) (star (all rwA rs') emp))) := H
      rw [List.map_append]
      exact H.ent (Ent.star (Ent.refl _) (Asn.assoc'.trans (Ent.star (all_snoc rwA _ rs') (Ent.refl _))))
  · have hje : j = rs.length := by simp only [decide_eq_false_iff_not] at h; omega
    subst hje
    rw [List.take_of_length_le (by simp)] at hrs
    exact Rt.ok ⟨o, rs', rfl, hrs, H.assoc'⟩
theorem indexB_c {fn : FuncId} {cap : Array Value} {p : Slc → Bool} (hC : Cel w s 1 (rs.map fun r => r.1.v)) (hl : rs.length ≤ 1099511627776) (hb : bodyB PP fn = true)
    (hp : ∀ w' (l : Slc), Fr [] w w' → Calls PP fn (#[l.v] ++ cap) w' (Rt fun v w'' => v = .bool (p l) ∧ Fr [] w' w'')) :
    Calls PP F_slices_IndexFunc_byte_byte_147 #[s.v, .func (.func fn) #[] cap] w (Rt fun v w' => ∃ i : Int, v = .int .i64 i ∧ decide (0 ≤ i) = rs.any (fun r => p r.1) ∧ Fr [] w w') := by
  refine sim_slices_IndexFunc_byte_byte_147 _ _ _ _ ?_
  unfold vc_slices_IndexFunc_byte_byte_147
  have hsl := hC.lenM
  refine ⟨fun i w' => ∃ j : Nat, i = (j : Int) ∧ j ≤ rs.length ∧ (∀ k (hk : k < rs.length), k < j → p rs[k].1 = false) ∧ Fr [] w w', fun i _ => rs.length - i.toNat, ⟨0, rfl, Nat.zero_le _, fun k _ hk => by omega, Fr.refl _ _⟩, ?_⟩
  rintro _ w2 ⟨j, rfl, hj, hno, f2⟩
  refine ⟨fun h => ?_, fun h => ?_⟩
  · have hlt : j < rs.length := by simp only [decide_eq_true_eq] at h; omega
    refine (hC.fr0 f2).rdS hlt fun a ha => ⟨fn, cap, rfl, hb, call (hp w2 _ f2) ?_⟩
    rintro _ w3 ⟨rfl, f3⟩
    refine ⟨_, rfl, fun h => Rt.ok ⟨_, rfl, ?_, f2.then_ f3⟩, fun h => ?_⟩
    · rw [show decide (0 ≤ (j : Int)) = true by simp]
      symm
      exact List.any_eq_true.2 ⟨rs[j], List.getElem_mem hlt, h⟩
    · rw [ofW j (by omega)]
      refine ⟨⟨j + 1, rfl, by omega, fun k hk hkj => ?_, f2.then_ f3⟩, by dsimp only; omega⟩
      by_cases hkj2 : k = j
      · subst hkj2; exact h
      · exact hno k hk (by omega)
  · have hje : j = rs.length := by simp only [decide_eq_false_iff_not] at h; omega
    refine Rt.ok ⟨-1, rfl, ?_, f2⟩
    symm
    show rs.any _ = false
    rw [List.any_eq_false]
    intro r hr
    obtain ⟨k, hk, rfl⟩ := List.getElem_of_mem hr
    rw [hno k hk (by omega)]
    simp
theorem containsB_c {fn : FuncId} {cap : Array Value} {p : Slc → Bool} (hC : Cel w s 1 (rs.map fun r => r.1.v)) (hl : rs.length ≤ 1099511627776) (hb : bodyB PP fn = true)
    (hp : ∀ w' (l : Slc), Fr [] w w' → Calls PP fn (#[l.v] ++ cap) w' (Rt fun v w'' => v = .bool (p l) ∧ Fr [] w' w'')) :
    Calls PP F_slices_ContainsFunc_byte_byte_111 #[s.v, .func (.func fn) #[] cap] w (Rt fun v w' => v = .bool (rs.any fun r => p r.1) ∧ Fr [] w w') := by
  refine sim_slices_ContainsFunc_byte_byte_111 _ _ _ _ ?_
  unfold vc_slices_ContainsFunc_byte_byte_111
  refine call (indexB_c hC hl hb hp) ?_
  rintro _ w1 ⟨i, rfl, hi, f⟩
  exact ⟨i, rfl, Rt.ok ⟨by rw [hi], f⟩⟩
theorem cpy_all {α : Type} {k : Nat} {cs ys : List α} (h : cs.length = k) (h2 : ys.length = k) : cs.take 0 ++ ys.take k ++ cs.drop (0 + k) = ys := by
  rw [List.take_zero, List.nil_append, List.take_of_length_le (by omega), List.drop_eq_nil_of_le (by omega), List.append_nil]
end
end Go.Proofs.YtabifopphhpciaaGreatDoor

namespace Go.Gf
section
variable {A : Mat} {n col i : Nat} {a : UInt8}
theorem done_swap (h : Done A n col) (hc : col ≤ i) (hi : i < n) : Done (fun r => if r = col then A i else if r = i then A col else A r) n col := fun j hj r hr => by
  dsimp only
  by_cases h1 : r = col
  · rw [if_pos h1, h j hj i hi, if_neg (by omega), if_neg (by omega)]
  · rw [if_neg h1]
    by_cases h2 : r = i
    · rw [if_pos h2, h j hj col (by omega), if_neg (by omega), if_neg (by omega)]
    · rw [if_neg h2, h j hj r hr]
theorem done_scale (h : Done A n col) (hc : col < n) : Done (fun r => if r = col then fun c => mul a (A col c) else A r) n col := fun j hj r hr => by
  dsimp only
  by_cases h1 : r = col
  · rw [if_pos h1, h j hj col hc, if_neg (by omega), if_neg (by omega), mul_zero]
  · rw [if_neg h1, h j hj r hr]
theorem done_add (h : Done A n col) (hc : col < n) : Done (fun r => if r = i then fun c => A i c ^^^ mul a (A col c) else A r) n col := fun j hj r hr => by
  dsimp only
  by_cases h1 : r = i
  · subst h1
    rw [if_pos rfl, h j hj col hc, h j hj r hr, if_neg (show ¬ col = j by omega), mul_zero, add_zero]
  · rw [if_neg h1, h j hj r hr]
theorem done_next (h : Done A n col) (h1 : A col col = 1) (h2 : ∀ r, r < n → r ≠ col → A r col = 0) : Done A n (col + 1) := fun j hj r hr => by
  by_cases hjc : j = col
  · subst hjc
    by_cases hr2 : r = j
    · rw [if_pos hr2, hr2, h1]
    · rw [if_neg hr2, h2 r hr hr2]
  · exact h j (by omega) r hr
end
theorem ent_setF {R : List (List UInt8)} {i : Nat} {r : List UInt8} (hi : i < R.length) : ent (R.set i r) = fun j => if j = i then fun c => r.getD c 0 else ent R j := by
  funext j c
  rw [ent_set hi]
  by_cases h : j = i
  · rw [if_pos h, if_pos h]
  · rw [if_neg h, if_neg h]
theorem ent_row {R : List (List UInt8)} {i : Nat} (hi : i < R.length) : (fun c => R[i].getD c 0) = ent R i := by funext c; rw [ent_at hi]
def mulR (a : UInt8) (l : List UInt8) : List UInt8 := l.map fun x => mul x a
theorem mulR_at (a : UInt8) (l : List UInt8) (c : Nat) : (mulR a l).getD c 0 = mul a (l.getD c 0) := by
  unfold mulR
  simp only [List.getD_eq_getElem?_getD, List.getElem?_map]
  cases l[c]? with
  | none => simp [mul_zero]
  | some x => simp [mul_comm]
end Go.Gf

namespace Go.Proofs.YtabifopphhpciaaGreatDoor
open Go Go.Vc Go.Vc.Asn Go.Gf
def RdC (w0 : World) (F : Asn) (a : Addr) (v : Value) : Prop := ∀ w' A, Hp w0 w' (star A F) → w'.cell? a = some v
def swp (rs : Rws) (i j : Nat) : Rws := (rs.set i (rs.getD j (Slc.nil, []))).set j (rs.getD i (Slc.nil, []))
theorem swp_at {rs : Rws} {i j : Nat} (hi : i < rs.length) (hj : j < rs.length) : swp rs i j = (rs.set i rs[j]).set j rs[i] := by
  unfold swp
  rw [List.getD_eq_getElem?_getD, List.getD_eq_getElem?_getD, List.getElem?_eq_getElem hi, List.getElem?_eq_getElem hj]; rfl
theorem swp_mt {rs : Rws} {i j : Nat} (hi : i < rs.length) (hj : j < rs.length) : mt (swp rs i j) = ((mt rs).set i ((mt rs)[j]'(by rw [mt_len]; exact hj))).set j ((mt rs)[i]'(by rw [mt_len]; exact hi)) := by
  rw [swp_at hi hj]
  simp only [mt, List.map_set, List.getElem_map]
theorem swp_ent {rs : Rws} {i j : Nat} (hi : i < rs.length) (hj : j < rs.length) : ent (mt (swp rs i j)) = fun r => if r = i then ent (mt rs) j else if r = j then ent (mt rs) i else ent (mt rs) r := by
  rw [swp_mt hi hj, ent_setF (by rw [List.length_set, mt_len]; exact hj), ent_setF (by rw [mt_len]; exact hi), ent_row, ent_row]
  funext r
  by_cases h1 : r = i
  · by_cases h2 : r = j
    · subst h1; subst h2; simp
    · simp [h1]
      intro h3; exact absurd (h1.trans h3) h2
  · by_cases h2 : r = j
    · simp [h2]
      intro h3; subst h3; rfl
    · simp [h1, h2]
section
variable {w0 w : World} {F : Asn} {s : Slc} {rs : Rws} {g i j : Nat} {b b5 : Addr}
abbrev OwR (s : Slc) (rs : Rws) (F : Asn) : Asn := star (own Ty_sl_uint8 1 s (rs.map fun r => r.1.v)) (star (all rwA rs) F)
theorem swap_c (hb : RdC w0 F b s.v) (H : Hp w0 w (OwR s rs F)) (hi : i < rs.length) (hj : j < rs.length) :
    Calls PP F_matrix_eliminate_c1 #[.int .i64 (i : Int), .int .i64 (j : Int), .pointer (some b)] w (Rt fun v w' => v = .tuple #[] ∧ Hp w0 w' (OwR s (swp rs i j) F)) := by
  refine sim_matrix_eliminate_c1 _ _ _ _ _ ?_
  unfold vc_matrix_eliminate_c1
  have H := H.drew 1
  have hC := (rdR H).cel
  have hB := hb _ _ H.drop
  refine ⟨s, hB, s, hB, s, hB, hC.rdS hj fun a ha => ⟨s, hB, hC.rdS hi fun a2 ha2 => Hp.wr (s := s) H (by simpa using hi) fun w1 H => ⟨hb _ _ H.drop, Hp.wr (s := s) H (by simpa using hj) fun w2 H => Rt.ok ⟨rfl, ?_⟩⟩⟩⟩
  have e : (swp rs i j).map (fun r => r.1.v) = ((rs.map fun r => r.1.v).set i rs[j].1.v).set j rs[i].1.v := by
    rw [swp_at hi hj, List.map_set, List.map_set]
  unfold OwR
  rw [e]
  refine H.ent (Ent.star (Ent.refl _) (Ent.star (all_prm ?_) (Ent.refl _)))
  rw [swp_at hi hj]
  exact (List.set_set_perm hi hj).symm
theorem scale_c {c : UInt8} (hK : Blk w0 g Ty_gf_Field fieldL.toArray) (hb : RdC w0 F b s.v) (hb5 : RdC w0 F b5 (.pointer (some (blk g)))) (H : Hp w0 w (OwR s rs F)) (hi : i < rs.length) (hl : rs[i].2.length ≤ 1099511627776) :
    Calls PP F_matrix_eliminate_c3 #[.int .i64 (i : Int), u8v c, .pointer (some b), .pointer (some b5)] w (Rt fun v w' => v = .tuple #[] ∧ Hp w0 w' (OwR s (upd rs i (mulR c rs[i].2)) F)) := by
  refine sim_matrix_eliminate_c3 _ _ _ _ _ _ ?_
  unfold vc_matrix_eliminate_c3
  have hrl := ((rdR H).at_ hi).len
  refine ⟨s, hb _ _ H.drop, (rdR H).cel.rdS hi fun a ha => ⟨fun x w' => ∃ (t : Nat) (cur : List UInt8), x = (t : Int) ∧ t ≤ rs[i].2.length ∧ cur.length = rs[i].2.length ∧ (∀ k, k < t → cur[k]? = (mulR c rs[i].2)[k]?) ∧ (∀ k, t ≤ k → cur[k]? = rs[i].2[k]?) ∧ Hp w0 w' (star (own Ty_uint8 1 rs[i].1 (cur.map u8v)) (star (all rwA (rs.take i ++ rs.drop (i + 1))) (star (own Ty_sl_uint8 1 s (rs.map fun r => r.1.v)) F))), fun x _ => rs[i].2.length - x.toNat, ⟨0, rs[i].2, rfl, Nat.zero_le _, rfl, fun k hk => by omega, fun _ _ => rfl, pickRow rs H hi⟩, ?_⟩⟩
  rintro _ w1 ⟨t, cur, rfl, ht, hcl, h1, h2, H⟩
  have hml : (mulR c rs[i].2).length = rs[i].2.length := by unfold mulR; rw [List.length_map]
  refine ⟨fun h => ?_, fun h => ?_⟩
  · have hlt : t < rs[i].2.length := by simp only [decide_eq_true_eq] at h; omega
    have hcu : t < cur.length := by omega
    refine Byt.rd (H.cel (s := rs[i].1)) hcu fun a2 ha2 => ?_
    have H := H.drew 1
    refine ⟨s, hb _ _ H.drop.drop, Cel.rdS (H.drop.drop.cel (s := s)) hi fun a3 ha3 => ⟨some (blk g), hb5 _ _ H.drop.drop, ?_⟩⟩
    refine call (mul_c (f := g) cur[t] c (hK.fr H.fr (by simp))) ?_
    rintro _ w2 ⟨rfl, f⟩
    have H := H.fr0 f
    refine ⟨_, rfl, hb _ _ H.drop.drop, Cel.at' (H.drop.drop.cel (s := s)) hi ha3, Hp.wr (s := rs[i].1) H (by simpa using hcu) fun w3 H => ?_⟩
    rw [← List.map_set] at H
    rw [ofW t (by omega)]
    refine ⟨⟨t + 1, cur.set t (mul cur[t] c), rfl, by omega, by rw [List.length_set]; exact hcl, fun k hk => ?_, fun k hk => ?_, H⟩, by dsimp only; omega⟩
    · rw [List.getElem?_set]
      by_cases hkt : t = k
      · subst hkt
        have e := h2 t (Nat.le_refl _)
        rw [List.getElem?_eq_getElem hcu, List.getElem?_eq_getElem hlt] at e
        injection e with e
        rw [if_pos rfl, if_pos hcu, e]
        unfold mulR
        rw [List.getElem?_map, List.getElem?_eq_getElem hlt]
        rfl
      · rw [if_neg hkt]; exact h1 k (by omega)
    · rw [List.getElem?_set, if_neg (by omega)]
      exact h2 k (by omega)
  · have hte : t = rs[i].2.length := by simp only [decide_eq_false_iff_not] at h; omega
    have e : cur = mulR c rs[i].2 := by
      apply List.ext_getElem?
      intro k
      by_cases hk : k < rs[i].2.length
      · exact h1 k (by omega)
      · rw [List.getElem?_eq_none (by omega), List.getElem?_eq_none (by omega)]
    rw [e] at H
    refine Rt.ok ⟨rfl, ?_⟩
    have H := putRow hi H
    unfold OwR
    rw [upd_sl]
    exact H.own s
theorem others {α : Type} {l : List α} {i j : Nat} (hi : i < l.length) (hj : j < l.length) (h : i ≠ j) : l[j] ∈ l.take i ++ l.drop (i + 1) := by
  rw [List.mem_append]
  by_cases h2 : j < i
  · left
    rw [List.mem_take_iff_getElem]
    exact ⟨j, by omega, rfl⟩
  · right
    rw [List.mem_drop_iff_getElem]
    exact ⟨j - (i + 1), by omega, by congr 1; omega⟩
theorem add_c {c : UInt8} (hK : Blk w0 g Ty_gf_Field fieldL.toArray) (hb : RdC w0 F b s.v) (hb5 : RdC w0 F b5 (.pointer (some (blk g)))) (H : Hp w0 w (OwR s rs F)) (hi : i < rs.length) (hj : j < rs.length) (hij : i ≠ j) (hl : rs[i].2.length ≤ 1099511627776) (hl2 : rs[j].2.length = rs[i].2.length) :
    Calls PP F_matrix_eliminate_c2 #[.int .i64 (i : Int), u8v c, .int .i64 (j : Int), .pointer (some b5), .pointer (some b)] w (Rt fun v w' => v = .tuple #[] ∧ Hp w0 w' (OwR s (upd rs i (addR c rs[i].2 rs[j].2)) F)) := by
  refine sim_matrix_eliminate_c2 _ _ _ _ _ _ _ ?_
  unfold vc_matrix_eliminate_c2
  have H := H.drew 1
  refine ⟨_, hb5 _ _ H.drop, s, hb _ _ H.drop, (rdR H).cel.rdS hi fun a ha => ⟨s, hb _ _ H.drop, (rdR H).cel.rdS hj fun a2 ha2 => ?_⟩⟩
  refine call (addMul_c (p := g) (bs := rs[i].2) (xs := rs[j].2) c (fun w' A X => hK.fr X.fr (by simp)) (fun w' A X => ?_) hl2 hl (pickRow rs H hi)) ?_
  · have X2 : Hp w0 w' (star (all rwA (rs.take i ++ rs.drop (i + 1))) _) := X.drop
    exact rowsOf (rs := rs.take i ++ rs.drop (i + 1)) X2 rs[j] (others hi hj hij)
  · rintro _ w1 ⟨rfl, H⟩
    have H := putRow hi H
    refine ⟨_, rfl, Rt.ok ⟨rfl, ?_⟩⟩
    unfold OwR
    rw [upd_sl]
    exact H.own s
end
end Go.Proofs.YtabifopphhpciaaGreatDoor

namespace Go.Proofs.YtabifopphhpciaaGreatDoor
open Go Go.Vc Go.Vc.Asn Go.Gf
theorem entR {rs : Rws} {i c : Nat} (hi : i < rs.length) (hc : c < rs[i].2.length) : rs[i].2[c] = ent (mt rs) i c := by
  rw [ent_at2 (by rw [mt_len]; exact hi) (by rw [mt_at hi]; exact hc)]
  simp [mt]
theorem shpRow {rs : Rws} {m n i : Nat} (h : Shp (mt rs) m n) (hi : i < rs.length) : rs[i].2.length = n := h.row _ (List.mem_map_of_mem (List.getElem_mem hi))
theorem shpLen {rs : Rws} {m n : Nat} (h : Shp (mt rs) m n) : rs.length = m := by have := h.len; rwa [mt_len] at this
section
variable {w0 w : World} {F : Asn} {s : Slc} {rs : Rws} {g n : Nat} {M : Go.Gf.Mat}
theorem elim_c (hK : Blk w0 g Ty_gf_Field fieldL.toArray) (hS : Shp (mt rs) n (n + n)) (hn : n ≤ 256) (hT : Triv M n) (hSK : SameKer (aug M n) (ent (mt rs)) n (n + n)) (H : Hp w0 w (OwR s rs F)) :
    Calls PP F_matrix_eliminate #[.pointer (some (blk g)), s.v, .int .i64 (n : Int)] w (Rt fun v w' => ∃ (pv : Slc) (rs' : Rws), v = pv.v ∧ pv.l = n ∧ Shp (mt rs') n (n + n) ∧ Done (ent (mt rs')) n n ∧ SameKer (aug M n) (ent (mt rs')) n (n + n) ∧ Hp w0 w' (OwR s rs' F)) := by
  refine sim_matrix_eliminate _ _ _ _ _ ?_
  unfold vc_matrix_eliminate
  have hsl : s.l = n := by rw [(rdR H).cel.lenM]; exact shpLen hS
  refine H.new fun b5 w1 H => H.new fun b8 w2 H => ?_
  have H := H.nilRow Ty_int 1
  have H := (H.take (all rwA rs)).own s
  refine ⟨fun p x w' => ∃ (col : Nat) (ps : List Value) (rs : Rws), x = (col : Int) ∧ col ≤ n ∧ p.l = col ∧ Shp (mt rs) n (n + n) ∧ Done (ent (mt rs)) n col ∧ SameKer (aug M n) (ent (mt rs)) n (n + n) ∧ Hp w0 w' (OwR s rs (star (own Ty_int 1 p ps) (star (bk b8 Ty_sl_sl_uint8 #[s.v]) (star (bk b5 Ty_p_gf_Field #[.pointer (some (blk g))]) F)))), fun _ x _ => n - x.toNat,
    ⟨0, [], rs, rfl, Nat.zero_le _, rfl, hS, fun j hj => by omega, hSK, H⟩, ?_⟩
  rintro p _ w3 ⟨col, ps, rs, rfl, hc, hpl, hS, hD, hSK, H⟩
  rw [hpl]
  refine ⟨fun h => ?_, fun h => ?_⟩
  · have hlt : col < n := by simp only [decide_eq_true_eq] at h; omega
    refine ⟨fun p w' => ∃ (ps : List Value) (rs : Rws), p.l = col + 1 ∧ Shp (mt rs) n (n + n) ∧ Done (ent (mt rs)) n (col + 1) ∧ SameKer (aug M n) (ent (mt rs)) n (n + n) ∧ Hp w0 w' (OwR s rs (star (own Ty_int 1 p ps) (star (bk b8 Ty_sl_sl_uint8 #[s.v]) (star (bk b5 Ty_p_gf_Field #[.pointer (some (blk g))]) F)))), ?_, ?_⟩
    · refine ⟨fun x w' => ∃ t : Nat, x = (t : Int) ∧ col ≤ t ∧ t ≤ n ∧ (∀ r, col ≤ r → r < t → ent (mt rs) r col = 0) ∧ Hp w0 w' (OwR s rs (star (own Ty_int 1 p ps) (star (bk b8 Ty_sl_sl_uint8 #[s.v]) (star (bk b5 Ty_p_gf_Field #[.pointer (some (blk g))]) F)))), fun x _ => n - x.toNat, ⟨col, rfl, Nat.le_refl _, hc, fun r h1 h2 => by omega, H⟩, ?_⟩
      rintro _ w4 ⟨t, rfl, hct, htn, hz, H⟩
      have hb : RdC w0 (star (own Ty_int 1 p ps) (star (bk b8 Ty_sl_sl_uint8 #[s.v]) (star (bk b5 Ty_p_gf_Field #[.pointer (some (blk g))]) F))) (blk b8) s.v := fun w' A X => X.cell (b := b8) (i := 0) rfl
      have hb5 : RdC w0 (star (own Ty_int 1 p ps) (star (bk b8 Ty_sl_sl_uint8 #[s.v]) (star (bk b5 Ty_p_gf_Field #[.pointer (some (blk g))]) F))) (blk b5) (.pointer (some (blk g))) := fun w' A X => X.cell (b := b5) (i := 0) rfl
      have hrl := shpLen hS
      refine ⟨s, H.cell (b := b8) (i := 0) rfl, fun h => ?_, fun h => ?_⟩
      · exfalso
        simp only [decide_eq_true_eq] at h
        obtain ⟨i, h1, h2, h3⟩ := has_pivot hT hSK hD hlt
        exact h3 (hz i h1 (by omega))
      · have htlt : t < n := by simp only [decide_eq_false_iff_not] at h; omega
        have htr : t < rs.length := by omega
        have hw := shpRow hS htr
        refine ⟨s, H.cell (b := b8) (i := 0) rfl, (rdR H).cel.rdS htr fun a ha => ((rdR H).at_ htr).rd (i := col) (by omega) fun a2 ha2 => ⟨fun h => ?_, fun h => ?_⟩⟩
        · have hne : ent (mt rs) t col ≠ 0 := by
            rw [← entR htr (by omega)]
            intro e
            rw [e] at h
            simp at h
          refine call (swap_c hb H (by omega) htr) ?_
          rintro _ w5 ⟨rfl, H⟩
          have e1 := swp_ent (rs := rs) (i := col) (j := t) (by omega) htr
          have hcr : col < rs.length := by omega
          have hl1 : (swp rs col t).length = n := by rw [swp_at hcr htr]; simp [hrl]
          have hS1 : Shp (mt (swp rs col t)) n (n + n) := by
            rw [swp_mt hcr htr]
            exact (hS.set (hS.at_ _)).set (hS.at_ _)
          have hD1 : Done (ent (mt (swp rs col t))) n col := by rw [e1]; exact done_swap hD hct htlt
          have hSK1 : SameKer (aug M n) (ent (mt (swp rs col t))) n (n + n) := by rw [e1]; exact hSK.trans (ker_swap hlt htlt)
          have hne1 : ent (mt (swp rs col t)) col col ≠ 0 := by rw [e1]; dsimp only; rw [if_pos rfl]; exact hne
          generalize swp rs col t = rs1 at *
          have H := H.drew 1
          have hc1 : col < rs1.length := by omega
          have hw1 := shpRow hS1 hc1
          refine ⟨rfl, _, H.cell (b := b5) (i := 0) rfl, s, H.cell (b := b8) (i := 0) rfl, (rdR H).cel.rdS hc1 fun a3 ha3 => ((rdR H).at_ hc1).rd (i := col) (by omega) fun a4 ha4 => ?_⟩
          have e2 := entR (rs := rs1) (c := col) hc1 (by omega)
          refine call (inv_c (f := g) rs1[col].2[col] (by rw [e2]; exact hne1) (hK.fr H.fr (by simp))) ?_
          rintro _ w6 ⟨rfl, f6⟩
          have H := H.fr0 f6
          refine ⟨_, _, rfl, call (scale_c (g := g) (c := inv rs1[col].2[col]) hK hb hb5 H hc1 (by omega)) ?_⟩
          rintro _ w7 ⟨rfl, H⟩
          have hA : ent (mt (upd rs1 col (mulR (inv rs1[col].2[col]) rs1[col].2))) = fun r => if r = col then fun c => mul (inv rs1[col].2[col]) (ent (mt rs1) col c) else ent (mt rs1) r := by
            rw [upd_mt, ent_setF (by rw [mt_len]; exact hc1)]
            funext r
            by_cases hr : r = col
            · rw [if_pos hr, if_pos hr]
              funext c
              rw [mulR_at, ent_at (by rw [mt_len]; exact hc1), mt_at hc1]
            · rw [if_neg hr, if_neg hr]
          have hS2 : Shp (mt (upd rs1 col (mulR (inv rs1[col].2[col]) rs1[col].2))) n (n + n) := by rw [upd_mt]; exact hS1.set (by unfold mulR; rw [List.length_map]; exact hw1)
          have hD2 : Done (ent (mt (upd rs1 col (mulR (inv rs1[col].2[col]) rs1[col].2)))) n col := by rw [hA]; exact done_scale hD1 hlt
          have hSK2 : SameKer (aug M n) (ent (mt (upd rs1 col (mulR (inv rs1[col].2[col]) rs1[col].2)))) n (n + n) := by rw [hA]; exact hSK1.trans (ker_scale hlt (inv_ne (by rw [e2]; exact hne1)))
          have hone : ent (mt (upd rs1 col (mulR (inv rs1[col].2[col]) rs1[col].2))) col col = 1 := by
            rw [hA]; dsimp only; rw [if_pos rfl, e2, mul_comm]; exact mul_inv hne1
          generalize upd rs1 col (mulR (inv rs1[col].2[col]) rs1[col].2) = rs2 at *
          refine ⟨rfl, s, H.cell (b := b8) (i := 0) rfl, fun x w' => ∃ (t : Nat) (rs : Rws), x = (t : Int) ∧ t ≤ n ∧ Shp (mt rs) n (n + n) ∧ Done (ent (mt rs)) n col ∧ SameKer (aug M n) (ent (mt rs)) n (n + n) ∧ ent (mt rs) col col = 1 ∧ (∀ r, r < t → r ≠ col → ent (mt rs) r col = 0) ∧ Hp w0 w' (OwR s rs (star (own Ty_int 1 p ps) (star (bk b8 Ty_sl_sl_uint8 #[s.v]) (star (bk b5 Ty_p_gf_Field #[.pointer (some (blk g))]) F)))), fun x _ => n - x.toNat, ⟨0, rs2, rfl, Nat.zero_le _, hS2, hD2, hSK2, hone, fun r hr => by omega, H⟩, ?_⟩
          rintro _ w8 ⟨u, rs3, rfl, hu, hS3, hD3, hSK3, hone3, hz3, H⟩
          have hl3 := shpLen hS3
          refine ⟨fun h => ?_, fun h => ?_⟩
          · have hul : u < n := by simp only [decide_eq_true_eq] at h; omega
            have hur : u < rs3.length := by omega
            have hwu := shpRow hS3 hur
            refine ⟨fun w' => ∃ rs : Rws, Shp (mt rs) n (n + n) ∧ Done (ent (mt rs)) n col ∧ SameKer (aug M n) (ent (mt rs)) n (n + n) ∧ ent (mt rs) col col = 1 ∧ (∀ r, r < u + 1 → r ≠ col → ent (mt rs) r col = 0) ∧ Hp w0 w' (OwR s rs (star (own Ty_int 1 p ps) (star (bk b8 Ty_sl_sl_uint8 #[s.v]) (star (bk b5 Ty_p_gf_Field #[.pointer (some (blk g))]) F)))), ⟨fun h => ?_, fun h => ?_⟩, ?_⟩
            · have huc : u ≠ col := by simp only [decide_eq_true_eq] at h; omega
              have hc3 : col < rs3.length := by omega
              have hwc := shpRow hS3 hc3
              refine ⟨s, H.cell (b := b8) (i := 0) rfl, (rdR H).cel.rdS hur fun a3 ha3 => ((rdR H).at_ hur).rd (i := col) (by omega) fun a4 ha4 => ?_⟩
              refine call (add_c (g := g) (c := rs3[u].2[col]) hK hb hb5 H hur hc3 huc (by omega) (by omega)) ?_
              rintro _ w9 ⟨rfl, H⟩
              have e3 := entR (rs := rs3) (c := col) hur (by omega)
              have hA : ent (mt (upd rs3 u (addR rs3[u].2[col] rs3[u].2 rs3[col].2))) = fun r => if r = u then fun c => ent (mt rs3) u c ^^^ mul rs3[u].2[col] (ent (mt rs3) col c) else ent (mt rs3) r := by
                rw [upd_mt, ent_setF (by rw [mt_len]; exact hur)]
                funext r
                by_cases hr : r = u
                · rw [if_pos hr, if_pos hr]
                  funext c
                  rw [addR_at (by omega), ent_at (by rw [mt_len]; exact hur), ent_at (by rw [mt_len]; exact hc3), mt_at hur, mt_at hc3]
                · rw [if_neg hr, if_neg hr]
              refine ⟨rfl, _, ?_, ?_, ?_, ?_, ?_, H⟩
              · rw [upd_mt]; exact hS3.set (by rw [addR_len (by omega)]; exact hwu)
              · rw [hA]; exact done_add hD3 hlt
              · rw [hA]; exact hSK3.trans (ker_add hul hlt huc)
              · rw [hA]; dsimp only; rw [if_neg (Ne.symm huc)]; exact hone3
              · intro r hr hrc
                rw [hA]
                dsimp only
                by_cases hru : r = u
                · rw [if_pos hru, hone3, mul_one, e3, add_self]
                · rw [if_neg hru]; exact hz3 r (by omega) hrc
            · have huc : u = col := by simp only [decide_eq_false_iff_not, ne_eq, Decidable.not_not] at h; omega
              exact ⟨rs3, hS3, hD3, hSK3, hone3, fun r hr hrc => hz3 r (by omega) hrc, H⟩
            · rintro w9 ⟨rs4, h1, h2, h3, h4, h5, H⟩
              rw [ofW u (by omega)]
              exact ⟨⟨u + 1, rs4, rfl, by omega, h1, h2, h3, h4, h5, H⟩, by dsimp only; omega⟩
          · have hue : u = n := by simp only [decide_eq_false_iff_not] at h; omega
            subst hue
            refine Hp.app1 (s := p) slT_sl_int H rfl (by unfold maxLen; omega) (by omega) fun p2 w9 H hp2 => ?_
            exact ⟨_, rs3, by omega, hS3, done_next hD3 hone3 hz3, hSK3, (H.take (all rwA rs3)).own s⟩
        · rw [ofW t (by omega)]
          refine ⟨⟨t + 1, rfl, by omega, by omega, fun r h1 h2 => ?_, H⟩, by dsimp only; omega⟩
          by_cases hrt : r = t
          · subst hrt
            rw [← entR htr (by omega)]
            simp only [decide_eq_false_iff_not, ne_eq, Decidable.not_not] at h
            exact UInt8.toNat_inj.1 (by show _ = 0; omega)
          · exact hz r h1 (by omega)
    · rintro p2 w4 ⟨ps2, rs2, h1, h2, h3, h4, H⟩
      rw [ofW col (by omega)]
      exact ⟨⟨col + 1, ps2, rs2, rfl, by omega, h1, h2, h3, h4, H⟩, by dsimp only; omega⟩
  · have hce : col = n := by simp only [decide_eq_false_iff_not] at h; omega
    subst hce
    exact Rt.ok ⟨p, rs, rfl, hpl, hS, hD, hSK, (((((H.own p).drop).blk b8).drop.blk b5).drop)⟩
end
end Go.Proofs.YtabifopphhpciaaGreatDoor
