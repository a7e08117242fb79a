/-
  The law ClientDeaf: its loop over the messages.
-/
import Derived.Test.YtabifopphhpciaaGreatDoorM8
import Derived.Test.YtabifopphhpciaaGreatDoorM7
import Derived.OpenShut
import Derived.Carry
import Derived.ChangeSame
import Derived.Deep.DeepHandedRow
import Derived.SizedLaws
import Derived.RowKit
import Derived.Test.YtabifopphhpciaaGreatDoorRows
import Derived.ProofKit
import Derived.Test.YtabifopphhpciaaGreatDoorCards
import Derived.Test.YtabifopphhpciaaGreatDoorTie
import Derived.LaidHandle
import Derived.LaidLaws
namespace Go.Vc
open Go
section
variable {l : List Ha} {m : Am}
theorem plAns_a (l : List Ha) (m : Am) : (plAns l m).2.k = m.k + 1 ∧ (plAns l m).2.cl = m.cl ∧ (plAns l m).2.sv = m.sv ∧ (plAns l m).2.op = m.op ∧ (plAns l m).2.key = m.key ∧ (plAns l m).2.tag = m.tag := by
  unfold plAns
  dsimp only
  split
  · exact ⟨rfl, rfl, rfl, rfl, rfl, rfl⟩
  · split
    · exact ⟨rfl, rfl, rfl, rfl, rfl, rfl⟩
    · split <;> exact ⟨rfl, rfl, rfl, rfl, rfl, rfl⟩
theorem plAns_top (h1 : m.k = 1 → l = []) (h7 : m.k ≠ 7) : (plAns l m).2.top = Tg.zero := by
  unfold plAns
  dsimp only
  split
  · rename_i h
    rw [h1 h]; rfl
  · split
    · rfl
    · first | rfl | rw [if_neg h7]
theorem plAns_same (h : m.k = 1) : (plAns l m).1 = l := by
  unfold plAns
  rw [if_pos h]
theorem plAdd_len (l : List Ha) (t : Tg) : (plAdd l t).length ≤ l.length + 1 := by
  unfold plAdd
  split
  · omega
  · simp
theorem plAns_len (l : List Ha) (m : Am) : (plAns l m).1.length ≤ l.length + 1 := by
  have h := plAdd_len l m.tag
  unfold plAns modA
  dsimp only
  split
  · show l.length ≤ l.length + 1; omega
  · split
    · rw [List.length_set]; exact h
    · split <;> (rw [List.length_set]; exact h)
theorem modA_mem {i : Nat} {f : Ha → Ha} {h : Ha} (hm : h ∈ modA l i f) : h ∈ l ∨ (∃ z ∈ l, h = f z) ∨ h = f ⟨Tg.zero, false, false, []⟩ := by
  unfold modA at hm
  rcases List.mem_or_eq_of_mem_set hm with hm | hm
  · exact .inl hm
  · rw [List.getD_eq_getElem?_getD] at hm
    cases hi : l[i]? with
    | none => rw [hi] at hm; exact .inr (.inr hm)
    | some z => rw [hi] at hm; exact .inr (.inl ⟨z, List.mem_of_getElem? hi, hm⟩)
theorem plAdd_mem' {t : Tg} {h : Ha} (hm : h ∈ plAdd l t) : h ∈ l ∨ h.bs = [] := by
  unfold plAdd at hm
  split at hm
  · exact .inl hm
  · rcases List.mem_append.1 hm with hm | hm
    · exact .inl hm
    · rw [List.mem_singleton.1 hm]; exact .inr rfl
theorem plAns_bs {B : Nat} (hl : ∀ h ∈ l, h.bs.length ≤ B) (hm : m.bs.length ≤ B) : ∀ h ∈ (plAns l m).1, h.bs.length ≤ B := by
  have ha : ∀ h ∈ plAdd l m.tag, h.bs.length ≤ B := fun h hh => by
    rcases plAdd_mem' hh with hh | hh
    · exact hl h hh
    · rw [hh]; exact Nat.zero_le _
  have hf : ∀ {i : Nat} {f : Ha → Ha}, (∀ z : Ha, z.bs.length ≤ B → (f z).bs.length ≤ B) → ∀ h ∈ modA (plAdd l m.tag) i f, h.bs.length ≤ B := fun {i f} hfz h hh => by
    rcases modA_mem hh with hh | ⟨z, hz, rfl⟩ | rfl
    · exact ha h hh
    · exact hfz z (ha z hz)
    · exact hfz _ (Nat.zero_le _)
  have hg : ∀ z : Ha, z.bs.length ≤ B → (Ha.give m.bs z).bs.length ≤ B := fun z hz => by
    unfold Ha.give
    split
    · exact hz
    · exact hm
  have he : ∀ z : Ha, z.bs.length ≤ B → z.end.bs.length ≤ B := fun z hz => hz
  unfold plAns
  dsimp only
  split
  · exact hl
  · split
    · exact hf hg
    · split <;> exact hf he
end
end Go.Vc
namespace Go.Proofs.YtabifopphhpciaaGreatDoor
open Go Go.Vc Go.Vc.Asn Go.Gf
structure DE where
  b : Bool
  n : Nat
  k : Nat
  q : Nat
  c : Cfg
  id : Int
  key : ByteArray
  bs : List UInt8
  nt : Tg
  pa : Nat
  oa : Nat
  cda : Nat
  ga : Nat
  sca : Slc
  rsa : Rws
  pb : Nat
  ob : Nat
  cdb : Nat
  gb : Nat
  scb : Slc
  rsb : Rws
  tp : Nat
  sv : Slc
  N : Int
  K : Int
  D : Int
def DE.A (E : DE) (x : Cl) (y : Opn) (L : List (Int × Rp)) : Asn := star (cliA E.pa x) (star (opnA E.oa y) (star (phA y.ph (E.c, L)) (codeA E.cda E.ga E.sca E.rsa E.n E.k)))
def DE.B (E : DE) (x : Cl) (y : Opn) (L : List (Int × Rp)) : Asn := star (cliA E.pb x) (star (opnA E.ob y) (star (phA y.ph (E.c, L)) (codeA E.cdb E.gb E.scb E.rsb E.n E.k)))
structure DEok (E : DE) (w0 : World) : Prop where
  ca : ∀ {w' : World} {A' : Asn}, Hp w0 w' (star (codeA E.cda E.ga E.sca E.rsa E.n E.k) A') → RdCode w' E.cda E.ga E.sca E.rsa E.n E.k
  cb : ∀ {w' : World} {A' : Asn}, Hp w0 w' (star (codeA E.cdb E.gb E.scb E.rsb E.n E.k) A') → RdCode w' E.cdb E.gb E.scb E.rsb E.n E.k
  ok : E.c.Ok
  hn : E.c.N = (E.n : Int)
  hn2 : E.n ≤ 7
  hb : E.bs.length ≤ 300
  id1 : 1 ≤ E.id
  id2 : E.id ≤ 65535
  hnt : E.nt = Tg.zero.next 0 E.id
  hq : (E.c.N + E.c.K + 1) / 2 = (E.q : Int)
  hq1 : 1 ≤ E.q
  hqn : E.q ≤ E.n
  mt : mt E.rsa = mt E.rsb
  hk : 1 ≤ E.k
  hkn : E.k ≤ E.n
abbrev DE.req (E : DE) (y : Opn) : Int → Am := reqOf E.id y (partOf E.rsa E.bs E.k)
structure Stale (E : DE) (f : Nat) (s : Am) : Prop where
  k : s.k ≠ 2 * (f : Int) + 1
  k0 : 1 ≤ s.k
  k6 : s.k ≤ 6
  sv0 : 0 ≤ s.sv
  sv1 : s.sv < (E.n : Int)
  bs : s.bs.length ≤ 65536
structure DSt (E : DE) (f i cnt : Nat) (st : List Am) (xs : List Pl) (xa : Cl) (ya : Opn) (La : List (Int × Rp)) (xb : Cl) (yb : Opn) (Lb : List (Int × Rp)) (ql : List Ms) : Prop where
  hf : f ≤ 2
  hi : i < E.q
  cnt_ : cnt + st.length = f * E.n + i
  st0 : st ≠ [] → i = 0
  f0 : f = 0 → st = []
  stale : ∀ s ∈ st, Stale E f s
  oa : OpSt E.b E.c E.id E.cda E.oa E.key E.bs E.nt f xa ya
  ob : OpSt E.b E.c E.id E.cdb E.ob E.key E.bs E.nt f xb yb
  ca : Came (allOf E.n) i Tg.zero La
  cb : Came (allOf E.n) i Tg.zero Lb
  xl : xs.length = E.n
  x0 : f = 0 → ∀ x ∈ xs, x.abs = []
  xn : ∀ x ∈ xs, x.l.length ≤ cnt ∧ ∀ h ∈ x.abs, h.bs.length ≤ 65536
  ql_ : ql.map Ms.abs = st ++ ((allOf E.n).map (E.req ya)).drop i
abbrev dlA (E : DE) (l : Slc) (ql : List Ms) (xs : List Pl) (A B G : Asn) : Asn :=
  star (que Ty_api_Message 11 l (ql.flatMap Ms.c)) (star (all mdA ql) (tnA E.tp E.sv xs E.N E.K E.D (star A (star B G))))
section
variable {w0 w : World} {F G : Asn} {E : DE} {f i cnt : Nat} {st : List Am} {xs : List Pl} {xa xb : Cl} {ya yb : Opn} {La Lb : List (Int × Rp)} {ql : List Ms} {s : Slc} {nz : List Ms} {m : Ms} {r : Slc}
theorem req_eq (hE : DEok E w0) (ha : OpSt E.b E.c E.id E.cda E.oa E.key E.bs E.nt f xa ya) (hb : OpSt E.b E.c E.id E.cdb E.ob E.key E.bs E.nt f xb yb) (hf : f ≤ 2) : reqOf E.id yb (partOf E.rsb E.bs E.k) = E.req ya := by
  funext j
  unfold DE.req partOf reqOf
  rw [hE.mt, ha.stg, hb.stg, ha.op, hb.op, ha.key_, hb.key_]
  have hf3 : f = 0 ∨ f = 1 ∨ f = 2 := by omega
  rcases hf3 with rfl | rfl | rfl
  · rfl
  · rw [ha.tag (by decide), hb.tag (by decide)]
  · rw [ha.tag (by decide), hb.tag (by decide)]
theorem req_bs (hE : DEok E w0) (y : Opn) (j : Int) : (E.req y j).bs.length ≤ 65536 := by
  have hp : (partOf E.rsa E.bs E.k j).length ≤ 65536 := by
    unfold partOf
    rw [lin_len]
    unfold sizeN
    have := Nat.div_le_self (E.bs.length + 4 + E.k - 1) E.k
    have := hE.hb
    have := hE.hkn
    have := hE.hn2
    omega
  unfold DE.req reqOf
  split
  · exact Nat.zero_le _
  · exact hp
  · exact Nat.zero_le _
  · exact Nat.zero_le _
theorem req_k (ha : OpSt E.b E.c E.id E.cda E.oa E.key E.bs E.nt f xa ya) (hf : f ≤ 2) (j : Int) : (E.req ya j).k = 2 * (f : Int) + 1 ∧ (E.req ya j).cl = E.id ∧ (E.req ya j).sv = j ∧ (E.req ya j).op = 1 ∧ (E.req ya j).key = E.key ∧ (f ≠ 0 → (E.req ya j).tag = E.nt) := by
  unfold DE.req reqOf
  rw [ha.stg]
  have hf3 : f = 0 ∨ f = 1 ∨ f = 2 := by omega
  rcases hf3 with rfl | rfl | rfl
  · exact ⟨rfl, rfl, rfl, ha.op, ha.key_, fun h => absurd rfl h⟩
  · exact ⟨rfl, rfl, rfl, ha.op, ha.key_, fun h => ha.tag h⟩
  · exact ⟨rfl, rfl, rfl, ha.op, ha.key_, fun h => ha.tag h⟩
theorem drop_req {n i : Nat} (hi : i < n) (g : Int → Am) : ((allOf n).map g).drop i = g (i : Int) :: ((allOf n).map g).drop (i + 1) := by
  have hl : i < ((allOf n).map g).length := by rw [List.length_map, allOf_len]; exact hi
  rw [List.drop_eq_getElem_cons hl]
  congr 1
  rw [List.getElem_map]
  have := allOf_at hi
  rw [List.getElem?_eq_getElem (by rw [allOf_len]; exact hi)] at this
  rw [Option.some.inj this]
theorem fr3 {A B C D F : Asn} : Ent (star (star A (star B (star C D))) F) (star A (star B (star C (star D F)))) := assoc.trans (Ent.star (Ent.refl _) (assoc.trans (Ent.star (Ent.refl _) assoc)))
theorem to3 {A B C D F : Asn} : Ent (star A (star B (star C (star D F)))) (star (star A (star B (star C D))) F) := (Ent.star (Ent.refl _) ((Ent.star (Ent.refl _) assoc').trans assoc')).trans assoc'
theorem tickG_c {p o g n k : Nat} {sc : Slc} {rs : Rws} {c : Cfg} {id : Int} {cd : Nat} {key : ByteArray} {bs : List UInt8} {nt : Tg} {b : Bool} {x : Cl} {y : Opn} {L : List (Int × Rp)} (hC : ∀ {w' : World} {A' : Asn}, Hp w0 w' (star (codeA cd g sc rs n k) A') → RdCode w' cd g sc rs n k) (hn : c.N = (n : Int)) (hn2 : n ≤ 255) (hb : bs.length ≤ 65536) (hS : OpSt b c id cd o key bs nt f x y)
    (H : Hp w0 w (star (star (cliA p x) (star (opnA o y) (star (phA y.ph (c, L)) (codeA cd g sc rs n k)))) F)) :
    Calls PP F_client_Client_Tick #[.pointer (some (blk p))] w (Rt fun v w' => ∃ r tm, v = Slc.v r ∧ tm.map Ms.abs = (missing L n).map (reqOf id y (partOf rs bs k)) ∧ Hp w0 w' (star (msgsA r tm) (star (star (cliA p x) (star (opnA o y) (star (phA y.ph (c, L)) (codeA cd g sc rs n k)))) F))) := by
  refine Rt.mono (tick_c (n := n) (k := k) (fun H => by rw [hS.cd_]; exact hC H) hn hn2 (by rw [hS.bs_]; exact hb) hS.now (by rw [hS.stg]; unfold stgOf; split <;> decide) (H.ent fr3)) ?_
  rintro v w' ⟨r, tm, rfl, h, H⟩
  rw [hS.id_, hS.bs_] at h
  exact ⟨r, tm, rfl, h, H.ent (Ent.star (Ent.refl _) to3)⟩
theorem allOf_take {n i : Nat} (hi : i < n) : (i : Int) ∈ (allOf n).take (i + 1) := by
  have h := allOf_at hi
  exact List.mem_of_getElem? (i := i) (by rw [List.getElem?_take_of_lt (by omega)]; exact h)
theorem hdAll_c {Q : Ending → World → Prop} {K0 : Slc → World → Prop} {l97 : Slc} {b340 : Nat} {m0 a : Ms} {ql' : List Ms} {xs' : List Pl} (hE : DEok E w0) (S : DSt E f i cnt st xs xa ya La xb yb Lb (m0 :: ql'))
    (ak : a.k = m0.k + 1) (acl : a.cl = m0.cl) (asv : a.sv = m0.sv) (aop : a.op = m0.op) (akey : a.key = m0.key) (atag : a.tag = m0.tag) (atop : st = [] → a.top = Tg.zero)
    (xl' : xs'.length = E.n) (x0' : f = 0 → ∀ x ∈ xs', x.abs = []) (xn' : ∀ x ∈ xs', x.l.length ≤ cnt + 1 ∧ ∀ h ∈ x.abs, h.bs.length ≤ 65536)
    (hK : ∀ s' w' f' i' st' xa' ya' La' xb' yb' Lb' ql2, DSt E f' i' (cnt + 1) st' xs' xa' ya' La' xb' yb' Lb' ql2 → Hp w0 w' (star (que Ty_api_Message 11 s' (ql2.flatMap Ms.c)) (star (all mdA ql2) (star (E.A xa' ya' La') (star (E.B xb' yb' Lb') G)))) → K0 s' w')
    (hQ : ∀ w', Fr [] w0 w' → Q (.returned (.bool true)) w')
    (H : Hp w0 w (star (que Ty_api_Message 11 (l97.cut 11 (Int.toNat 1) (Int.toNat (l97.l : Int))) (ql'.flatMap Ms.c)) (star (all mdA ql') (star (E.A xa ya La) (star (E.B xb yb Lb) (star (bk b340 Ty_api_Message a.c.toArray) G)))))) :
    hdC l97 b340 (some (blk E.pa)) (some (blk E.pb)) w Q K0 := by
  have hn7 := hE.hn2
  have hqn := hE.hqn
  have hi := S.hi
  have hb65 : E.bs.length ≤ 65536 := by have := hE.hb; omega
  have hql := S.ql_
  have hqlen : ql'.length ≤ 1000 := by
    have e := congrArg List.length hql
    simp only [List.length_map, List.length_cons, List.length_append, List.length_drop, allOf_len] at e
    have e2 := S.cnt_
    by_cases hs : st = []
    · rw [hs] at e; simp at e; omega
    · have h0 := S.st0 hs
      have hcnt : st.length ≤ f * E.n := by omega
      have : f * E.n ≤ 2 * 7 := Nat.mul_le_mul S.hf hn7
      omega
  have hkey : (allOf E.n).Perm (allOf E.n) := List.Perm.refl _
  match st, S, hql, atop with
  | s0 :: st2, S, hql, atop =>
    rw [List.map_cons, List.cons_append] at hql
    injection hql with hm hql
    have hs0 := S.stale s0 (List.mem_cons_self ..)
    have hk0 : m0.k = s0.k := congrArg Am.k hm
    have hak : a.k ≠ 2 * (f : Int) + 2 := by have := hs0.k; omega
    have hi0 := S.st0 (by simp)
    refine hd_c (R := Rs.no) (e := false) (PA := fun ms A2 => ms = [] ∧ A2 = E.A xa ya La) (PB := fun ms B2 => ms = [] ∧ B2 = E.B xb yb Lb) (DA := fun ms A2 => ms = [] ∧ A2 = E.A xa ya La) (am := fun _ _ _ => (missing La E.n).map (E.req ya)) rfl ?_ ?_ ?_ ?_ hqlen (fun h => nomatch h) ?_ ?_ ?_ ?_ (fun h => nomatch h) H
    · intro w F H
      exact Rt.mono (handleNo_c S.oa.now (counts_kind S.oa S.hf hak) (H.ent fr3)) fun v w' ⟨hv, f⟩ => ⟨Slc.nil, [], _, hv, ⟨rfl, rfl⟩, msgs_nil (H.fr0 f)⟩
    · intro w F H
      exact Rt.mono (handleNo_c S.ob.now (counts_kind S.ob S.hf hak) (H.ent fr3)) fun v w' ⟨hv, f⟩ => ⟨Slc.nil, [], _, hv, ⟨rfl, rfl⟩, msgs_nil (H.fr0 f)⟩
    · rintro _ _ _ _ ⟨rfl, _⟩ ⟨rfl, _⟩; rfl
    · rintro _ _ ⟨rfl, _⟩; exact Nat.zero_le _
    · rintro - _ _ ⟨rfl, rfl⟩ w F H
      exact Rt.mono (handleNo_c S.oa.now (counts_kind S.oa S.hf hak) (H.ent fr3)) fun v w' ⟨hv, f⟩ => ⟨hv, _, ⟨rfl, rfl⟩, H.fr0 f⟩
    · rintro - _ _ _ _ ⟨rfl, rfl⟩ ⟨rfl, rfl⟩
      refine ⟨by rw [List.length_map]; have := missing_len (L := La) (n := E.n); omega, fun {w F} H => tickG_c hE.ca hE.hn (by omega) hb65 S.oa H⟩
    · rintro - _ _ _ _ ⟨rfl, rfl⟩ ⟨rfl, rfl⟩ w F H
      refine Rt.mono (tickG_c hE.cb hE.hn (by omega) hb65 S.ob H) fun v w' ⟨r, tm, hv, h, H⟩ => ⟨r, tm, hv, ?_, H⟩
      rw [h, missing_keys (S.cb.keys.trans S.ca.keys.symm), req_eq hE S.oa S.ob S.hf]
    · rintro - _ _ _ _ s' w' ⟨rfl, rfl⟩ ⟨rfl, rfl⟩ H
      rw [List.append_nil] at H
      refine hK s' w' f i st2 xa ya La xb yb Lb ql' ⟨S.hf, S.hi, ?_, fun _ => hi0, fun h => absurd (S.f0 h) (by simp), fun s hs => S.stale s (List.mem_cons_of_mem _ hs), S.oa, S.ob, S.ca, S.cb, xl', x0', xn', hql⟩ H
      have := S.cnt_
      simp only [List.length_cons] at this
      omega
  | [], S, hql, atop =>
    rw [List.nil_append, drop_req (by omega), List.map_cons] at hql
    injection hql with hm hql
    obtain ⟨k1, k2, k3, k4, k5, k6⟩ := req_k S.oa S.hf (i : Int)
    have hm' : ∀ {β : Type} (g : Am → β), g m0.abs = g (E.req ya i) := fun g => by rw [hm]
    have hk : a.k = 2 * (f : Int) + 2 := by have e : m0.k = (E.req ya i).k := hm' Am.k; omega
    have hcl : a.cl = E.id := acl.trans ((hm' Am.cl).trans k2)
    have hsv : a.sv = (i : Int) := asv.trans ((hm' Am.sv).trans k3)
    have hop : a.op = 1 := aop.trans ((hm' Am.op).trans k4)
    have hky : a.key = E.key := akey.trans ((hm' Am.key).trans k5)
    have htg : f ≠ 0 → a.tag = E.nt := fun h => atag.trans ((hm' Am.tag).trans (k6 h))
    have htp : a.top = Tg.zero := atop rfl
    have hgd : a.sv = (allOf E.n).getD i 0 := by rw [hsv, List.getD_eq_getElem?_getD, allOf_at (by omega)]; rfl
    have hcnt := S.cnt_
    rw [List.length_nil, Nat.add_zero] at hcnt
    have stA : ∀ {w : World} {F : Asn}, Hp w0 w (star (E.A xa ya La) F) → _ := fun {w F} H => stepG_c (m := a) (b := E.b) hE.ca hE.ok hE.hn (by omega) hb65 S.oa S.hf hE.id1 hE.id2 hE.hnt hkey (i := i) (q := E.q) (by omega) hE.hq S.ca hgd hk hcl hop hky htg htp (Hp.ent H fr3)
    have stB : ∀ {w : World} {F : Asn}, Hp w0 w (star (E.B xb yb Lb) F) → _ := fun {w F} H => stepG_c (m := a) (b := E.b) hE.cb hE.ok hE.hn (by omega) hb65 S.ob S.hf hE.id1 hE.id2 hE.hnt hkey (i := i) (q := E.q) (by omega) hE.hq S.cb hgd hk hcl hop hky htg htp (Hp.ent H fr3)
    by_cases hiq : i + 1 < E.q
    · have hmi : ∀ {L : List (Int × Rp)}, Came (allOf E.n) (i + 1) Tg.zero L → a.sv ∈ L.map (·.1) := fun h => by rw [h.keys, hsv]; exact allOf_take (by omega)
      have hL0 : (((allOf E.n).take (i + 1)).map fun j => (j, Rp.no)).map (·.1) = (allOf E.n).take (i + 1) := by rw [List.map_map]; exact List.map_id _
      refine hd_c (R := Rs.no) (e := false) (PA := fun ms A2 => ms = [] ∧ ∃ L', Came (allOf E.n) (i + 1) Tg.zero L' ∧ A2 = E.A xa ya L') (PB := fun ms B2 => ms = [] ∧ ∃ L', Came (allOf E.n) (i + 1) Tg.zero L' ∧ B2 = E.B xb yb L') (DA := fun ms A2 => ms = [] ∧ ∃ L', Came (allOf E.n) (i + 1) Tg.zero L' ∧ A2 = E.A xa ya L') (am := fun _ _ _ => (missing (((allOf E.n).take (i + 1)).map fun j => (j, Rp.no)) E.n).map (E.req ya)) rfl ?_ ?_ ?_ ?_ hqlen (fun h => nomatch h) ?_ ?_ ?_ ?_ (fun h => nomatch h) H
      · intro w F H
        refine Rt.mono (stA H) ?_
        rintro v w' (⟨_, rfl, L', hL', H⟩ | ⟨h, _⟩ | ⟨h, _⟩)
        · exact ⟨Slc.nil, [], _, rfl, ⟨rfl, L', hL', rfl⟩, msgs_nil (H.ent to3)⟩
        · omega
        · omega
      · intro w F H
        refine Rt.mono (stB H) ?_
        rintro v w' (⟨_, rfl, L', hL', H⟩ | ⟨h, _⟩ | ⟨h, _⟩)
        · exact ⟨Slc.nil, [], _, rfl, ⟨rfl, L', hL', rfl⟩, msgs_nil (H.ent to3)⟩
        · omega
        · omega
      · rintro _ _ _ _ ⟨rfl, _⟩ ⟨rfl, _⟩; rfl
      · rintro _ _ ⟨rfl, _⟩; exact Nat.zero_le _
      · rintro - _ _ ⟨rfl, L', hL', rfl⟩ w F H
        refine Rt.mono (again_c hE.ok S.oa S.hf hE.hq hiq (by rw [allOf_len]; omega) hL' (by rw [hsv, hE.hn]; omega) (hmi hL') hk hcl hop hky htg htp (H.ent fr3)) ?_
        rintro v w' ⟨rfl, L2, hL2, H⟩
        exact ⟨rfl, _, ⟨rfl, L2, hL2, rfl⟩, H.ent to3⟩
      · rintro - _ _ _ _ ⟨rfl, L', hL', rfl⟩ ⟨rfl, L2, hL2, rfl⟩
        refine ⟨by rw [List.length_map]; have := missing_len (L := ((allOf E.n).take (i + 1)).map fun j => (j, Rp.no)) (n := E.n); omega, fun {w F} H => Rt.mono (tickG_c hE.ca hE.hn (by omega) hb65 S.oa H) fun v w' ⟨r, tm, hv, h, H⟩ => ⟨r, tm, hv, ?_, H⟩⟩
        rw [h, missing_keys (hL'.keys.trans hL0.symm)]
      · rintro - _ _ _ _ ⟨rfl, L', hL', rfl⟩ ⟨rfl, L2, hL2, rfl⟩ w F H
        refine Rt.mono (tickG_c hE.cb hE.hn (by omega) hb65 S.ob H) fun v w' ⟨r, tm, hv, h, H⟩ => ⟨r, tm, hv, ?_, H⟩
        rw [h, missing_keys (hL2.keys.trans hL0.symm), req_eq hE S.oa S.ob S.hf]
      · rintro - _ _ _ _ s' w' ⟨rfl, L', hL', rfl⟩ ⟨rfl, L2, hL2, rfl⟩ H
        rw [List.append_nil] at H
        refine hK s' w' f (i + 1) [] xa ya L' xb yb L2 ql' ⟨S.hf, hiq, ?_, fun h => absurd rfl h, fun _ => rfl, fun s hs => (nomatch hs), S.oa, S.ob, hL', hL2, xl', x0', xn', by rw [List.nil_append]; exact hql⟩ H
        rw [List.length_nil]; omega
    · by_cases hc : E.b = true ∧ f < 2
      · obtain ⟨hbt, hf2⟩ := hc
        have hak : a.k ≠ 2 * ((f + 1 : Nat) : Int) + 2 := by omega
        refine hd_c (R := Rs.no) (e := false) (PA := fun ms A2 => ∃ x' y', OpSt E.b E.c E.id E.cda E.oa E.key E.bs E.nt (f + 1) x' y' ∧ ms.map Ms.abs = (allOf E.n).map (E.req y') ∧ A2 = E.A x' y' []) (PB := fun ms B2 => ∃ x' y', OpSt E.b E.c E.id E.cdb E.ob E.key E.bs E.nt (f + 1) x' y' ∧ ms.map Ms.abs = (allOf E.n).map (reqOf E.id y' (partOf E.rsb E.bs E.k)) ∧ B2 = E.B x' y' []) (DA := fun ms A2 => ∃ x' y', OpSt E.b E.c E.id E.cda E.oa E.key E.bs E.nt (f + 1) x' y' ∧ ms.map Ms.abs = (allOf E.n).map (E.req y') ∧ A2 = E.A x' y' []) (am := fun ms _ _ => ms.map Ms.abs) rfl ?_ ?_ ?_ ?_ hqlen (fun h => nomatch h) ?_ ?_ ?_ ?_ (fun h => nomatch h) H
        · intro w F H
          refine Rt.mono (stA H) ?_
          rintro v w' (⟨h, _⟩ | ⟨_, _, _, r, x', y', ms, rfl, hS, hms, H⟩ | ⟨_, h, _⟩)
          · omega
          · exact ⟨r, ms, _, rfl, ⟨x', y', hS, hms, rfl⟩, H.ent (Ent.star (Ent.refl _) to3)⟩
          · have := h hbt; omega
        · intro w F H
          refine Rt.mono (stB H) ?_
          rintro v w' (⟨h, _⟩ | ⟨_, _, _, r, x', y', ms, rfl, hS, hms, H⟩ | ⟨_, h, _⟩)
          · omega
          · exact ⟨r, ms, _, rfl, ⟨x', y', hS, hms, rfl⟩, H.ent (Ent.star (Ent.refl _) to3)⟩
          · have := h hbt; omega
        · rintro ms _ ms' _ ⟨x', y', hS, hms, _⟩ ⟨x2, y2, hS2, hms2, _⟩
          rw [hms, hms2, req_eq hE hS hS2 (by omega)]
        · rintro ms _ ⟨x', y', hS, hms, _⟩
          have e := congrArg List.length hms
          rw [List.length_map, List.length_map, allOf_len] at e
          omega
        · rintro - ms _ ⟨x', y', hS, hms, rfl⟩ w F H
          exact Rt.mono (handleNo_c hS.now (counts_kind hS (by omega) hak) (H.ent fr3)) fun v w' ⟨hv, f⟩ => ⟨hv, _, ⟨x', y', hS, hms, rfl⟩, H.fr0 f⟩
        · rintro - ms _ ms' _ ⟨x', y', hS, hms, rfl⟩ ⟨x2, y2, hS2, hms2, rfl⟩
          refine ⟨?_, fun {w F} H => Rt.mono (tickG_c hE.ca hE.hn (by omega) hb65 hS H) fun v w' ⟨r, tm, hv, h, H⟩ => ⟨r, tm, hv, ?_, H⟩⟩
          · have e := congrArg List.length hms
            rw [List.length_map, List.length_map, allOf_len] at e
            rw [List.length_map]; omega
          · rw [h, missing_nil, hms]
        · rintro - ms _ ms' _ ⟨x', y', hS, hms, rfl⟩ ⟨x2, y2, hS2, hms2, rfl⟩ w F H
          refine Rt.mono (tickG_c hE.cb hE.hn (by omega) hb65 hS2 H) fun v w' ⟨r, tm, hv, h, H⟩ => ⟨r, tm, hv, ?_, H⟩
          rw [h, missing_nil, hms, req_eq hE hS hS2 (by omega)]
        · rintro - ms _ ms' _ s' w' ⟨x', y', hS, hms, rfl⟩ ⟨x2, y2, hS2, hms2, rfl⟩ H
          refine hK s' w' (f + 1) 0 (((allOf E.n).map (E.req ya)).drop (i + 1)) x' y' [] x2 y2 [] (ql' ++ ms) ⟨by omega, hE.hq1, ?_, fun _ => rfl, fun h => absurd h (by omega), ?_, hS, hS2, Came.nil _ _, Came.nil _ _, xl', fun h => absurd h (by omega), xn', ?_⟩ H
          · rw [List.length_drop, List.length_map, allOf_len, Nat.add_mul]; omega
          · intro z hz
            obtain ⟨j, hj, rfl⟩ := List.mem_map.1 (List.mem_of_mem_drop hz)
            obtain ⟨j1, j2, j3, j4, j5, j6⟩ := req_k S.oa S.hf j
            have hjm := allOf_mem.1 hj
            exact ⟨by omega, by omega, by omega, by omega, by omega, req_bs hE ya j⟩
          · rw [List.map_append, hql, hms, List.drop_zero]
      · have hf2 : E.b = true → f = 2 := fun h => by have := S.hf; have : ¬ f < 2 := fun h2 => hc ⟨h, h2⟩; omega
        refine hd_c (R := Rend E.b E.nt) (e := true) (PA := fun ms A2 => ms = [] ∧ ∃ x' : Cl, x'.now = none ∧ A2 = cliA E.pa x') (PB := fun ms B2 => ms = [] ∧ ∃ x' : Cl, x'.now = none ∧ B2 = cliA E.pb x') (DA := fun _ _ => False) (am := fun _ _ _ => []) (by unfold Rend; split <;> rfl) ?_ ?_ ?_ ?_ hqlen ?_ (fun h => nomatch h) (fun h => nomatch h) (fun h => nomatch h) (fun h => nomatch h) (fun _ => hQ) H
        · intro w F H
          refine Rt.mono (stA H) ?_
          rintro v w' (⟨h, _⟩ | ⟨_, hb, hf, _⟩ | ⟨_, _, x', hx', rfl, H⟩)
          · omega
          · exact absurd ⟨hb, hf⟩ hc
          · exact ⟨Slc.nil, [], _, rfl, ⟨rfl, x', hx', rfl⟩, msgs_nil H⟩
        · intro w F H
          refine Rt.mono (stB H) ?_
          rintro v w' (⟨h, _⟩ | ⟨_, hb, hf, _⟩ | ⟨_, _, x', hx', rfl, H⟩)
          · omega
          · exact absurd ⟨hb, hf⟩ hc
          · exact ⟨Slc.nil, [], _, rfl, ⟨rfl, x', hx', rfl⟩, msgs_nil H⟩
        · rintro _ _ _ _ ⟨rfl, _⟩ ⟨rfl, _⟩; rfl
        · rintro _ _ ⟨rfl, _⟩; exact Nat.zero_le _
        · rintro - _ _ ⟨_, x', hx', rfl⟩; exact ⟨x', hx', rfl⟩
def dInv (E : DE) (nzn : Nat) (w0 : World) (G : Asn) (l : Slc) (a z : Int) (w' : World) : Prop :=
  ∃ (t cnt f i : Nat) (st : List Am) (xs : List Pl) (xa : Cl) (ya : Opn) (La : List (Int × Rp)) (xb : Cl) (yb : Opn) (Lb : List (Int × Rp)) (ql : List Ms), a = (t : Int) ∧ t ≤ nzn ∧ z = (cnt : Int) ∧ DSt E f i cnt st xs xa ya La xb yb Lb ql ∧ Hp w0 w' (dlA E l ql xs (E.A xa ya La) (E.B xb yb Lb) G)
theorem head_ok {m0 : Ms} {ql' : List Ms} (hE : DEok E w0) (S : DSt E f i cnt st xs xa ya La xb yb Lb (m0 :: ql')) : 0 ≤ m0.sv ∧ m0.sv < (E.n : Int) ∧ 1 ≤ m0.k ∧ m0.k ≤ 6 ∧ m0.bs.length ≤ 65536 ∧ (st = [] → m0.k = 2 * (f : Int) + 1) := by
  have hql := S.ql_
  have hqn := hE.hqn
  have hi := S.hi
  match st, S, hql with
  | s0 :: st2, S, hql =>
    rw [List.map_cons, List.cons_append] at hql
    injection hql with hm hql
    have h := S.stale s0 (List.mem_cons_self ..)
    have e1 : m0.k = s0.k := congrArg Am.k hm
    have e2 : m0.sv = s0.sv := congrArg Am.sv hm
    have e3 : m0.bs = s0.bs := congrArg Am.bs hm
    rw [e1, e2, e3]
    exact ⟨h.sv0, h.sv1, h.k0, h.k6, h.bs, fun h => nomatch h⟩
  | [], S, hql =>
    rw [List.nil_append, drop_req (by omega), List.map_cons] at hql
    injection hql with hm hql
    obtain ⟨k1, k2, k3, k4, k5, k6⟩ := req_k S.oa S.hf (i : Int)
    have e1 : m0.k = (E.req ya i).k := congrArg Am.k hm
    have e2 : m0.sv = (E.req ya i).sv := congrArg Am.sv hm
    have e3 : m0.bs = (E.req ya i).bs := congrArg Am.bs hm
    have hf := S.hf
    rw [e1, e2, e3, k1, k3]
    exact ⟨by omega, by omega, by omega, by omega, req_bs hE ya i, fun _ => rfl⟩
theorem dloop_c {Q : Ending → World → Prop} (hE : DEok E w0) (hnz : Cel w0 s 11 (nz.flatMap Ms.c)) (hnl : nz.length ≤ 1099511627776) (hQ : ∀ w', Fr [] w0 w' → Q (.returned (.bool true)) w')
    (S : DSt E 0 0 0 [] xs xa ya [] xb yb [] ql) (H : Hp w0 w (dlA E r ql xs (E.A xa ya []) (E.B xb yb []) G)) : lpC r s (blk E.tp) (some (blk E.pa)) (some (blk E.pb)) w Q := by
  unfold lpC
  refine ⟨dInv E nz.length w0 G, fun _ _ z _ => 4096 - z.toNat, ⟨0, 0, 0, 0, [], xs, xa, ya, [], xb, yb, [], ql, rfl, Nat.zero_le _, rfl, S, H⟩, ?_⟩
  clear H S
  rintro l97 _ _ w1 ⟨t, cnt, f, i, st, xs, xa, ya, La, xb, yb, Lb, ql, rfl, ht, rfl, S, H⟩
  have hqn := hE.hqn
  have hn7 := hE.hn2
  have hi := S.hi
  have hcl : cnt ≤ 21 := by
    have := S.cnt_
    have : f * E.n ≤ 2 * 7 := Nat.mul_le_mul S.hf hn7
    omega
  match ql, S, H with
  | [], S, H =>
    have e := congrArg List.length S.ql_
    simp only [List.length_map, List.length_nil, List.length_append, List.length_drop, allOf_len] at e
    omega
  | m0 :: ql', S, H =>
  have hC := que_cel H
  have hll : l97.l = (m0 :: ql').length := Cel.flen (enc := Ms.c) ms_len hC (by decide)
  rw [List.length_cons] at hll
  have hcap := hC.cap
  obtain ⟨a, ha, hc⟩ := Cel.elem (enc := Ms.c) ms_len hC (show (m0 :: ql')[0]? = some m0 from rfl) (by decide)
  have ez : wr .i64 ((cnt : Int) + 1) = ((cnt + 1 : Nat) : Int) := by rw [wr64 (by omega) (by omega)]; omega
  obtain ⟨v0, v1, k0, k6, hb, hkf⟩ := head_ok hE S
  obtain ⟨j, hj⟩ : ∃ j : Nat, m0.sv = (j : Int) := ⟨m0.sv.toNat, by omega⟩
  have hjx : j < xs.length := by rw [S.xl]; omega
  have hsvl : E.sv.l = xs.length := by
    have := (H.cel (s := E.sv)).len
    rw [List.length_map] at this
    omega
  refine ⟨fun _ => ⟨fun l a w' => dInv E nz.length w0 G l a ((cnt + 1 : Nat) : Int) w', ⟨a, ha, by omega, by omega, _, hc 0 _ rfl, _, hc 1 _ rfl, _, hc 2 _ rfl, _, hc 3 _ rfl, _, hc 4 _ rfl, _, hc 5 _ rfl, _, hc 6 _ rfl, _, hc 7 _ rfl, _, hc 8 _ rfl, _, hc 9 _ rfl, _, hc 10 _ rfl, H.new fun b141 w2 H => H.stoAll (b := b141) (by rfl) fun w3 H => ⟨by decide, by omega, by omega, _, H.cell (b := b141) (i := 2) rfl, false, fun _ => ⟨_, H.cell (b := b141) (i := 2) rfl, _, H.cell (b := E.tp) (i := 3) rfl, ?_⟩, fun h => ?_, fun q => ⟨fun h => (nomatch h), fun _ => ?_⟩⟩⟩, ?_⟩, fun h => ?_⟩
  · rw [hsvl, hj]; simp; omega
  · exact absurd (of_decide_eq_true h) (by omega)
  · have H := H.drew q
    have H := (H.take (que Ty_api_Message 11 l97 ((m0 :: ql').flatMap Ms.c))).ent (Ent.star (que_cut (c := m0.c) (cs := ql'.flatMap Ms.c) (by decide) (ms_len m0)) (Ent.refl _))
    have H : Hp w0 _ (star (que Ty_api_Message 11 (l97.cut 11 (Int.toNat 1) (Int.toNat (l97.l : Int))) (ql'.flatMap Ms.c)) (star (bk b141 Ty_api_Message m0.c.toArray) (star (star (mdA m0) (all mdA ql')) (tnA E.tp E.sv xs E.N E.K E.D (star (E.A xa ya La) (star (E.B xb yb Lb) G)))))) := H
    have H : Hp w0 _ (star (bk b141 Ty_api_Message m0.c.toArray) (star (mdA m0) (tnA E.tp E.sv xs E.N E.K E.D (star (que Ty_api_Message 11 (l97.cut 11 (Int.toNat 1) (Int.toNat (l97.l : Int))) (ql'.flatMap Ms.c)) (star (all mdA ql') (star (E.A xa ya La) (star (E.B xb yb Lb) G))))))) := ((((((H.take (all mdA ql')).take (que Ty_api_Message 11 (l97.cut 11 (Int.toNat 1) (Int.toNat (l97.l : Int))) (ql'.flatMap Ms.c))).take (all plA xs)).own E.sv).blk E.tp).take (mdA m0)).blk b141
    refine ⟨fun a k w' => ∃ t kk : Nat, a = (t : Int) ∧ t ≤ nz.length ∧ k = (kk : Int) ∧ kk ≤ 3 ∧ Hp w0 w' (star (bk b141 Ty_api_Message m0.c.toArray) (star (mdA m0) (tnA E.tp E.sv xs E.N E.K E.D (star (que Ty_api_Message 11 (l97.cut 11 (Int.toNat 1) (Int.toNat (l97.l : Int))) (ql'.flatMap Ms.c)) (star (all mdA ql') (star (E.A xa ya La) (star (E.B xb yb Lb) G))))))), fun _ k _ => 3 - k.toNat, ⟨t, 0, rfl, ht, rfl, by omega, H⟩, ?_⟩
    clear H
    rintro _ _ w4 ⟨t', kk, rfl, ht', rfl, hkk, H⟩
    have hnl2 : s.l = nz.length := Cel.flen (enc := Ms.c) ms_len hnz (by decide)
    refine ⟨fun h => ?_, fun _ => ?_⟩
    · obtain ⟨h1, h2⟩ : kk < 3 ∧ t' < nz.length := by
        simp only [Bool.and_eq_true, decide_eq_true_eq] at h
        omega
      refine nz_c (hnz.fr0 H.fr) h2 S.oa.now S.oa.op ((H.take (E.A xa ya La)).ent fr3) fun w' f' => ?_
      have e1 : wr .i64 ((t' : Int) + 1) = ((t' + 1 : Nat) : Int) := by rw [wr64 (by omega) (by omega)]; omega
      have e2 : wr .i64 ((kk : Int) + 1) = ((kk + 1 : Nat) : Int) := by rw [wr64 (by omega) (by omega)]; omega
      rw [e1, e2]
      exact ⟨⟨t' + 1, kk + 1, rfl, h2, rfl, h1, H.fr0 f'⟩, by show 3 - ((kk + 1 : Nat) : Int).toNat < 3 - ((kk : Nat) : Int).toNat; omega⟩
    · have hx := S.xn xs[j] (List.getElem_mem hjx)
      refine an_c hjx hj (by omega) (by omega) (fun h hh => by have := hx.2 h hh; omega) (by omega) (by omega) H fun b340 w5 a' x' h1 h2 h3 H => ?_
      obtain ⟨g1, g2, g3, g4, g5, g6⟩ := plAns_a xs[j].abs m0.abs
      rw [← h3] at g1 g2 g3 g4 g5 g6
      have hset : ∀ {x : Pl}, x ∈ xs.set j x' → x ∈ xs ∨ x = x' := fun h => List.mem_or_eq_of_mem_set h
      refine hdAll_c (xs' := xs.set j x') (G := tnA E.tp E.sv (xs.set j x') E.N E.K E.D G) hE S g1 g2 g3 g4 g5 g6 (fun hst => ?_) (by rw [List.length_set]; exact S.xl) (fun hf x hx2 => ?_) (fun x hx2 => ?_) (fun s' w' f' i' st' xa' ya' La' xb' yb' Lb' ql2 S' H' => ⟨t', cnt + 1, f', i', st', xs.set j x', xa', ya', La', xb', yb', Lb', ql2, rfl, ht', rfl, S', ?_⟩) hQ ?_
      · show a'.abs.top = Tg.zero
        rw [h3]
        refine plAns_top (fun hk => ?_) (fun h7 => ?_)
        · have hk : m0.k = 1 := hk
          have := hkf hst
          exact S.x0 (by omega) _ (List.getElem_mem hjx)
        · have h7 : m0.k = 7 := h7
          omega
      · rcases hset hx2 with hx2 | rfl
        · exact S.x0 hf x hx2
        · have hk : m0.abs.k = 1 := by have := hkf (S.f0 hf); rw [hf] at this; exact this
          rw [h2, plAns_same hk]
          exact S.x0 hf _ (List.getElem_mem hjx)
      · rcases hset hx2 with hx2 | rfl
        · have := S.xn x hx2
          exact ⟨by omega, this.2⟩
        · have e1 : x.l.length = (plAns xs[j].abs m0.abs).1.length := by rw [← h2]; unfold Pl.abs; rw [List.length_map]
          have e2 := plAns_len xs[j].abs m0.abs
          have e3 : xs[j].abs.length = xs[j].l.length := by unfold Pl.abs; rw [List.length_map]
          refine ⟨by omega, ?_⟩
          rw [h2]
          exact plAns_bs hx.2 hb
      · exact ((((H'.take (all plA (xs.set j x'))).own E.sv).blk E.tp).take (all mdA ql2)).take (que Ty_api_Message 11 s' (ql2.flatMap Ms.c))
      · exact (((((H.take (mdA a')).drop.blk b340).take (E.B xb yb Lb)).take (E.A xa ya La)).take (all mdA ql')).take (que Ty_api_Message 11 (l97.cut 11 (Int.toNat 1) (Int.toNat (l97.l : Int))) (ql'.flatMap Ms.c))
  · intro l a w2 h
    rw [ez]
    exact ⟨h, by show 4096 - ((cnt + 1 : Nat) : Int).toNat < 4096 - ((cnt : Nat) : Int).toNat; omega⟩
  · exfalso
    simp only [Bool.and_eq_false_iff, decide_eq_false_iff_not] at h
    omega
end
end Go.Proofs.YtabifopphhpciaaGreatDoor

namespace Go.Proofs.YtabifopphhpciaaGreatDoor
open Go Go.Vc Go.Vc.Asn Go.Gf
section
variable {w0 w : World} {V I P s : Slc} {is : List Int} {nz : List Ms} {a b : Int} {put : Bool}
theorem dstart_c {E : DE} {xs : List Pl} {xa xb : Cl} {ya yb : Opn} {ms : List Ms} {r : Slc} {R : Asn} (hE : DEok E w0) (hxl : xs.length = E.n) (hx0 : ∀ x ∈ xs, x.abs = []) (oa : OpSt E.b E.c E.id E.cda E.oa E.key E.bs E.nt 0 xa ya) (ob : OpSt E.b E.c E.id E.cdb E.ob E.key E.bs E.nt 0 xb yb)
    (hms : ms.map Ms.abs = (allOf E.n).map (E.req ya)) (H : Hp w0 w (star (msgsA r ms) (star (cliA E.pa xa) (star (opnA E.oa ya) (star (phA ya.ph (E.c, [])) (star (codeA E.cda E.ga E.sca E.rsa E.n E.k) (star (cliA E.pb xb) (star (opnA E.ob yb) (star (phA yb.ph (E.c, [])) (star (codeA E.cdb E.gb E.scb E.rsb E.n E.k) (tnA E.tp E.sv xs E.N E.K E.D R))))))))))) :
    DSt E 0 0 0 [] xs xa ya [] xb yb [] ms ∧ Hp w0 w (dlA E r ms xs (E.A xa ya []) (E.B xb yb []) R) := by
  have hq1 := hE.hq1
  have hqn := hE.hqn
  have hml : ms.length = E.n := by have := congrArg List.length hms; rw [List.length_map, List.length_map, allOf_len] at this; exact this
  refine ⟨⟨by decide, by omega, by simp, fun h => absurd rfl h, fun _ => rfl, fun s hs => (nomatch hs), oa, ob, Came.nil _ _, Came.nil _ _, hxl, fun _ => hx0, fun x hx => ?_, by rw [List.nil_append, List.drop_zero]; exact hms⟩, ?_⟩
  · have h0 := hx0 x hx
    refine ⟨?_, fun h hh => by rw [h0] at hh; exact nomatch hh⟩
    unfold Pl.abs at h0
    rw [List.map_eq_nil_iff.1 h0]
    exact Nat.le_refl _
  · have hz : ms.flatMap Ms.c ≠ [] := fun h => by
      have e := flat_len (enc := Ms.c) ms_len ms
      rw [h, hml] at e
      simp at e
      omega
    have H := (H.ent assoc).ent (Ent.star (que_of hz) (Ent.refl _))
    have H := (((H.take (codeA E.cdb E.gb E.scb E.rsb E.n E.k)).take (phA yb.ph (E.c, []))).take (opnA E.ob yb)).take (cliA E.pb xb)
    have H : Hp w0 w (star (E.B xb yb []) _) := H.ent to3
    have H := (((H.take (codeA E.cda E.ga E.sca E.rsa E.n E.k)).take (phA ya.ph (E.c, []))).take (opnA E.oa ya)).take (cliA E.pa xa)
    have H : Hp w0 w (star (E.A xa ya []) _) := H.ent to3
    exact ((((H.take (all plA xs)).own E.sv).blk E.tp).take (all mdA ms)).take (que Ty_api_Message 11 r (ms.flatMap Ms.c))
abbrev clN (n k : Nat) (is : List Int) (q : Nat) : Cl := ⟨⟨(n : Int), (k : Int), 0⟩, idOf is, q, 0, [], none⟩
abbrev clO (n k : Nat) (is : List Int) (q o : Nat) : Cl := ⟨⟨(n : Int), (k : Int), 0⟩, idOf is, q, 0 + 1, [], some o⟩
abbrev opO (put : Bool) (val : Slc) (bs : List UInt8) (ph : Nat) : Opn := ⟨0 + 1, put, ByteArray.mk #[107], val, bs, .ask, Tg.zero, ph⟩
abbrev mkE (put : Bool) (n k q' : Nat) (is : List Int) (bs : List UInt8) (pa oa qa ga : Nat) (sca : Slc) (rsa : Rws) (pb ob qb gb : Nat) (scb : Slc) (rsb : Rws) (tp : Nat) (sv : Slc) : DE :=
  ⟨put, n, k, q', ⟨(n : Int), (k : Int), 0⟩, idOf is, ByteArray.mk #[107], bs, Tg.zero.next 0 (idOf is), pa, oa, qa, ga, sca, rsa, pb, ob, qb, gb, scb, rsb, tp, sv, (n : Int), (k : Int), 0⟩
theorem opst {n k q o ph : Nat} {val : Slc} {bs : List UInt8} : OpSt put ⟨(n : Int), (k : Int), 0⟩ (idOf is) q o (ByteArray.mk #[107]) bs (Tg.zero.next 0 (idOf is)) 0 (clO n k is q o) (opO put val bs ph) :=
  ⟨rfl, rfl, rfl, rfl, rfl, rfl, rfl, rfl, rfl, fun h => absurd rfl h, fun _ => rfl, fun _ => rfl⟩
structure DGo (w w' : World) (put : Bool) (n k q' : Nat) (is : List Int) (pa qa ga : Nat) (sca : Slc) (rsa : Rws) (pb qb gb : Nat) (scb : Slc) (rsb : Rws) (tp : Nat) (sv : Slc) (xs : List Pl) (l : Slc) : Prop where
  go : ∃ (bs : List UInt8) (oa ob va vb : Nat) (la lb : Slc) (ms : List Ms) (R : Asn), DEok (mkE put n k q' is bs pa oa qa ga sca rsa pb ob qb gb scb rsb tp sv) w ∧
      DSt (mkE put n k q' is bs pa oa qa ga sca rsa pb ob qb gb scb rsb tp sv) 0 0 0 [] xs (clO n k is qa oa) (opO put la bs va) [] (clO n k is qb ob) (opO put lb bs vb) [] ms ∧
      Hp w w' (dlA (mkE put n k q' is bs pa oa qa ga sca rsa pb ob qb gb scb rsb tp sv) l ms xs ((mkE put n k q' is bs pa oa qa ga sca rsa pb ob qb gb scb rsb tp sv).A (clO n k is qa oa) (opO put la bs va) []) ((mkE put n k q' is bs pa oa qa ga sca rsa pb ob qb gb scb rsb tp sv).B (clO n k is qb ob) (opO put lb bs vb) []) R)
theorem DGo.run {Q : Ending → World → Prop} {w w' : World} {n k q' : Nat} {pa qa ga : Nat} {sca : Slc} {rsa : Rws} {pb qb gb : Nat} {scb : Slc} {rsb : Rws} {tp : Nat} {sv : Slc} {xs : List Pl} {l : Slc} (h : DGo w w' put n k q' is pa qa ga sca rsa pb qb gb scb rsb tp sv xs l)
    (hnz : Cel w s 11 (nz.flatMap Ms.c)) (hnl : nz.length ≤ 1099511627776) (hQ : ∀ w', Fr [] w w' → Q (.returned (.bool true)) w') : lpC l s (blk tp) (some (blk pa)) (some (blk pb)) w' Q := by
  obtain ⟨bs, oa, ob, va, vb, la, lb, ms, R, hE, S, H⟩ := h.go
  exact dloop_c (E := (mkE put n k q' is bs pa oa qa ga sca rsa pb ob qb gb scb rsb tp sv)) hE hnz hnl hQ S H
set_option maxRecDepth 100000 in
set_option maxHeartbeats 400000 in
theorem clientDeaf_c (hI : Cel w I 1 (is.map iK)) (hnz : Cel w s 11 (nz.flatMap Ms.c)) (hnl : nz.length ≤ 1099511627776) :
    Calls PP F_sherdlaw18_ClientDeaf #[.agg #[.int .i64 a, .int .i64 b, V.v, I.v, P.v], s.v, .bool put] w (Rt fun v w' => v = .bool true ∧ Fr [] w w') := by
  refine sim_sherdlaw18_ClientDeaf _ _ _ _ _ _ _ _ _ ?_
  unfold vc_sherdlaw18_ClientDeaf
  refine (Hp.start w).new fun b9 w1 H => call townF_c ?_
  rintro _ w3 ⟨tp, N, K, sv, xs, rfl, hN1, hN7, hK1, hKN, hxl, hx0, J⟩
  have H := ((H.beside J).ent fr3).drew 1
  refine ⟨_, rfl, _, rfl, _, H.cell2 (b := tp) (i := 0) (j := 0) rfl, _, H.cell2 (b := tp) (i := 0) (j := 1) rfl, _, H.cell2 (b := tp) (i := 0) (j := 2) rfl, _, H.cell (b := b9) (i := 0) rfl, _, H.cell (b := b9) (i := 1) rfl, _, H.cell (b := b9) (i := 2) rfl, _, H.cell (b := b9) (i := 3) rfl, _, H.cell (b := b9) (i := 4) rfl, call (id_c (hI.fr0 H.fr)) ?_⟩
  rintro _ w4 ⟨rfl, f4⟩
  have H := H.fr0 f4
  have hib := idOf_bounds is
  obtain ⟨n, hn⟩ : ∃ n : Nat, N = (n : Int) := ⟨N.toNat, by omega⟩
  obtain ⟨k, hk⟩ : ∃ k : Nat, K = (k : Int) := ⟨K.toNat, by omega⟩
  subst hn hk
  have hok : (⟨(n : Int), (k : Int), 0⟩ : Cfg).Ok := ⟨hK1, hKN, by show (n : Int) ≤ 255; omega, Int.le_refl 0, by show (0 : Int) ≤ 4611686018427387903; decide⟩
  have hkn : 1 ≤ k ∧ k ≤ n ∧ n ≤ 255 := by omega
  refine ⟨_, rfl, H.cell2 (b := tp) (i := 0) (j := 0) rfl, H.cell2 (b := tp) (i := 0) (j := 1) rfl, H.cell2 (b := tp) (i := 0) (j := 2) rfl, call (newA_c (c := ⟨(n : Int), (k : Int), 0⟩) (n := n) (k := k) hok (by omega) (by omega) rfl rfl) ?_⟩
  rintro _ w5 ⟨pa, qa, ga, sca, rsa, rfl, hGa, J⟩
  have H := ((H.beside (J.ent (Ent.star (Ent.refl _) emp_r'))).assoc).drew 1
  refine ⟨_, _, rfl, _, H.cell2 (b := tp) (i := 0) (j := 0) rfl, _, H.cell2 (b := tp) (i := 0) (j := 1) rfl, _, H.cell2 (b := tp) (i := 0) (j := 2) rfl, _, H.cell (b := b9) (i := 0) rfl, _, H.cell (b := b9) (i := 1) rfl, _, H.cell (b := b9) (i := 2) rfl, _, H.cell (b := b9) (i := 3) rfl, _, H.cell (b := b9) (i := 4) rfl, call (id_c (hI.fr0 H.fr)) ?_⟩
  rintro _ w6 ⟨rfl, f6⟩
  have H := H.fr0 f6
  refine ⟨_, rfl, H.cell2 (b := tp) (i := 0) (j := 0) rfl, H.cell2 (b := tp) (i := 0) (j := 1) rfl, H.cell2 (b := tp) (i := 0) (j := 2) rfl, call (newA_c (c := ⟨(n : Int), (k : Int), 0⟩) (n := n) (k := k) hok (by omega) (by omega) rfl rfl) ?_⟩
  rintro _ w7 ⟨pb, qb, gb, scb, rsb, rfl, hGb, J⟩
  have H := (H.beside (J.ent (Ent.star (Ent.refl _) emp_r'))).assoc
  refine ⟨_, _, rfl, call awake_c ?_⟩
  rintro _ w8 ⟨rfl, f8⟩
  have H := H.fr0 f8
  have hCa : ∀ {w' : World} {A' : Asn}, Hp w w' (star (codeA qa ga sca rsa n k) A') → RdCode w' qa ga sca rsa n k := fun H => rdCode hGa hkn.1 hkn.2.1 hkn.2.2 H
  have hCb : ∀ {w' : World} {A' : Asn}, Hp w w' (star (codeA qb gb scb rsb n k) A') → RdCode w' qb gb scb rsb n k := fun H => rdCode hGb hkn.1 hkn.2.1 hkn.2.2 H
  obtain ⟨q', hq'⟩ : ∃ q' : Nat, ((n : Int) + (k : Int) + 1) / 2 = (q' : Int) := ⟨(((n : Int) + (k : Int) + 1) / 2).toNat, by omega⟩
  have hEok : ∀ (bs : List UInt8) (oa ob : Nat), bs.length ≤ 300 → DEok (mkE put n k q' is bs pa oa qa ga sca rsa pb ob qb gb scb rsb tp sv) w := fun bs oa ob hb =>
    ⟨hCa, hCb, hok, rfl, by show n ≤ 7; omega, hb, by show 1 ≤ idOf is; omega, by show idOf is ≤ 65535; omega, rfl, hq', by show 1 ≤ q'; omega, by show q' ≤ n; omega, hGa.uniq hGb, hkn.1, hkn.2.1⟩
  refine ⟨_, rfl, fun h => by simp at h, fun _ => ⟨fun e f l w' => e = 0 ∧ f = 0 ∧ DGo w w' put n k q' is pa qa ga sca rsa pb qb gb scb rsb tp sv xs l, ⟨fun hp => ?_, fun hp => ?_⟩, ?_⟩⟩
  · subst hp
    refine H.newRow (e := Ty_uint8) (n := 5) (size := 1) ([118, 97, 108, 117, 101].map u8v) rfl rfl (by decide) fun b1 w9 H => Hp.cvB (e := Ty_uint8) slT_sl_uint8.ut und_uint8 (by simp) H fun w10 H => ?_
    have hpa := put_c (x := clN n k is qa) (n := n) (k := k) (Vp := rdp ⟨some (blk b1), 5, 5⟩ [118, 97, 108, 117, 101]) (bs := [118, 97, 108, 117, 101]) (key := ByteArray.mk #[107]) hCa (fun H => H.rdp) hok rfl hkn.2.2 rfl (Int.le_refl 0) (by show (0 : Int) < 4611686018427387903; decide) (by decide) (by decide) (by decide) (((H.take (codeA qa ga sca rsa n k)).take (rdp ⟨some (blk b1), 5, 5⟩ [118, 97, 108, 117, 101])).take (cliA pa (clN n k is qa)))
    refine call hpa ?_
    rintro _ w11 ⟨oa, la, va, r, ms, rfl, hms, H⟩
    refine ⟨_, _, _, rfl, H.newRow (e := Ty_uint8) (n := 5) (size := 1) ([118, 97, 108, 117, 101].map u8v) rfl rfl (by decide) fun b2 w12 H => Hp.cvB (e := Ty_uint8) slT_sl_uint8.ut und_uint8 (by simp) H fun w13 H => ?_⟩
    have hpb := put_c (x := clN n k is qb) (n := n) (k := k) (Vp := rdp ⟨some (blk b2), 5, 5⟩ [118, 97, 108, 117, 101]) (bs := [118, 97, 108, 117, 101]) (key := ByteArray.mk #[107]) hCb (fun H => H.rdp) hok rfl hkn.2.2 rfl (Int.le_refl 0) (by show (0 : Int) < 4611686018427387903; decide) (by decide) (by decide) (by decide) (((H.take (codeA qb gb scb rsb n k)).take (rdp ⟨some (blk b2), 5, 5⟩ [118, 97, 108, 117, 101])).take (cliA pb (clN n k is qb)))
    refine call hpb ?_
    rintro _ w14 ⟨ob, lb, vb, r', ms', rfl, hms', H⟩
    have hE := hEok [118, 97, 108, 117, 101] oa ob (by decide)
    have H := ((((((((((((H.take (all plA xs)).own sv).blk tp).take (codeA qb gb scb rsb n k)).take (phA vb (⟨(n : Int), (k : Int), 0⟩, []))).take (opnA ob (opO true lb [118, 97, 108, 117, 101] vb))).take (cliA pb (clO n k is qb ob))).take (codeA qa ga sca rsa n k)).take (phA va (⟨(n : Int), (k : Int), 0⟩, []))).take (opnA oa (opO true la [118, 97, 108, 117, 101] va))).take (cliA pa (clO n k is qa oa))).take (msgsA r ms))
    have hds := dstart_c (E := mkE true n k q' is [118, 97, 108, 117, 101] pa oa qa ga sca rsa pb ob qb gb scb rsb tp sv) (xa := clO n k is qa oa) (ya := opO true la [118, 97, 108, 117, 101] va) (xb := clO n k is qb ob) (yb := opO true lb [118, 97, 108, 117, 101] vb) hE (by show xs.length = n; omega) hx0 opst opst hms H
    exact ⟨_, _, _, rfl, rfl, rfl, ⟨[118, 97, 108, 117, 101], oa, ob, va, vb, la, lb, ms, _, hE, hds.1, hds.2⟩⟩
  · subst hp
    have hga := get_c (x := clN n k is qa) (n := n) (k := k) (key := ByteArray.mk #[107]) hCa hok rfl hkn.2.2 rfl (Int.le_refl 0) (by show (0 : Int) < 4611686018427387903; decide) (by decide) (by decide) ((H.take (codeA qa ga sca rsa n k)).take (cliA pa (clN n k is qa)))
    refine call hga ?_
    rintro _ w11 ⟨oa, la, va, r, ms, rfl, hms, H⟩
    have hgb := get_c (x := clN n k is qb) (n := n) (k := k) (key := ByteArray.mk #[107]) hCb hok rfl hkn.2.2 rfl (Int.le_refl 0) (by show (0 : Int) < 4611686018427387903; decide) (by decide) (by decide) ((H.take (codeA qb gb scb rsb n k)).take (cliA pb (clN n k is qb)))
    refine ⟨_, _, _, rfl, call hgb ?_⟩
    rintro _ w14 ⟨ob, lb, vb, r', ms', rfl, hms', H⟩
    have hE := hEok [] oa ob (by decide)
    have H := ((((((((((((H.take (all plA xs)).own sv).blk tp).take (codeA qb gb scb rsb n k)).take (phA vb (⟨(n : Int), (k : Int), 0⟩, []))).take (opnA ob (opO false lb [] vb))).take (cliA pb (clO n k is qb ob))).take (codeA qa ga sca rsa n k)).take (phA va (⟨(n : Int), (k : Int), 0⟩, []))).take (opnA oa (opO false la [] va))).take (cliA pa (clO n k is qa oa))).take (msgsA r ms))
    have hds := dstart_c (E := mkE false n k q' is [] pa oa qa ga sca rsa pb ob qb gb scb rsb tp sv) (xa := clO n k is qa oa) (ya := opO false la [] va) (xb := clO n k is qb ob) (yb := opO false lb [] vb) hE (by show xs.length = n; omega) hx0 opst opst hms H
    exact ⟨_, _, _, rfl, rfl, rfl, ⟨[], oa, ob, va, vb, la, lb, ms, _, hE, hds.1, hds.2⟩⟩
  · rintro e f l w9 ⟨rfl, rfl, hgo⟩
    refine ⟨fun h => absurd h (by decide), fun _ => ?_⟩
    have hd : lpC l s (blk tp) (some (blk pa)) (some (blk pb)) w9 (Rt fun v w' => v = .bool true ∧ Fr [] w w') := hgo.run hnz hnl (fun w' f => Rt.ok ⟨rfl, f⟩)
    exact hd
end
end Go.Proofs.YtabifopphhpciaaGreatDoor

namespace Go.Vc
open Go Go.ChangeShapes Go.WideShapes Go.RowKit
section
variable {H : Type} {enc : TypeId × Value → H} {P : Program}

def Rd (enc : TypeId × Value → H) (P : Program) (w : World) (t : TypeId) (cs : List Value) : Prop :=
  ∃ fuel x, DataW.trod enc P w 0 (fun _ => true) true fuel t cs = some x ∧ ∀ n ∈ x.1.weights P t, n ≤ reachBytes
section
variable {w : World} {t : TypeId} {cs : List Value}
theorem Rd.int {k : IntKind} (h : Rd enc P w t cs) (ht : P.underlying t = some (.int k)) : ∃ n, cs = [.int k n] ∧ (Lit.int k n).wf = true := by
  obtain ⟨fuel, x, h, _⟩ := h
  obtain ⟨n, h1, _, h2⟩ := DataW.trod_int ht h
  exact ⟨n, h1, h2⟩
theorem Rd.bool (h : Rd enc P w t cs) (ht : P.underlying t = some .bool) : ∃ n, cs = [.bool n] := by
  obtain ⟨fuel, x, h, _⟩ := h
  obtain ⟨n, h1, _⟩ := DataW.trod_bool ht h
  exact ⟨n, h1⟩
theorem Rd.str (h : Rd enc P w t cs) (ht : P.underlying t = some .string) : ∃ s : ByteArray, cs = [.string s] ∧ s.size ≤ reachBytes := by
  obtain ⟨fuel, x, h, hz⟩ := h
  obtain ⟨s, h1, h2, _⟩ := DataW.trod_string ht h
  refine ⟨s, h1, ?_⟩
  subst h2
  have := hz s.data.toList.length (by simp [DataW.weights])
  simpa using this
theorem Rd.len (h : Rd enc P w t cs) {i off u : Nat} (hf : fldTyB P t i off u = true) : cs.length = P.cellsOf t := by
  obtain ⟨fuel, x, h, _⟩ := h
  unfold fldTyB at hf
  split at hf
  · rename_i fs hu
    obtain ⟨_, _, _, _, hl, _⟩ := DataW.trod_struct hu h
    exact hl
  · cases hf
theorem Rd.fld (h : Rd enc P w t cs) {i off u : Nat} (hf : fldTyB P t i off u = true) : Rd enc P w u ((cs.drop off).take (P.cellsOf u)) := by
  obtain ⟨fuel, x, h, hz⟩ := h
  unfold fldTyB at hf
  split at hf
  · rename_i fs hu
    split at hf
    · rename_i f hfi
      simp only [Bool.and_eq_true] at hf
      have e1 : f.offset = off := Nat.eq_of_beq_eq_true hf.1
      have e2 : f.type = u := Nat.eq_of_beq_eq_true hf.2
      obtain ⟨xs, n, _, hx, _, hl, hg⟩ := DataW.trod_struct hu h
      have h1 := hg i f hfi
      have hi : i < fs.size := (Array.getElem?_eq_some_iff.1 hfi).1
      rw [List.getElem?_eq_getElem (by omega)] at h1
      rw [e1, e2] at h1
      refine ⟨n, _, h1, fun m hm => hz m ?_⟩
      rw [hx]
      simp only [DataW.weights, hu]
      refine DataW.weights_mem_each (j := i) (t := u) (d := (xs[i]'(by omega)).1) ?_ ?_ m hm
      · have : fs.toList[i]? = some f := by simpa using hfi
        simp [List.getElem?_map, this, e2]
      · rw [List.getElem?_map, List.getElem?_eq_getElem (by omega)]
        rfl
    · cases hf
  · cases hf
theorem weights_mem_all {e : TypeId} {d : DataW H} {m : Nat} : ∀ {l : List (DataW H)}, d ∈ l → m ∈ d.weights P e → m ∈ DataW.weightsAll P e l
  | a :: r, h, hm => by
    simp only [DataW.weightsAll, List.mem_append]
    rcases List.mem_cons.1 h with rfl | h1
    · exact .inl hm
    · exact .inr (weights_mem_all h1 hm)
theorem Rd.slice {e : TypeId} (h : Rd enc P w t cs) (ht : P.underlying t = some (.slice e)) :
    ∃ s : Slc, cs = [s.v] ∧ s.l ≤ s.c ∧ s.l * P.bytesOf e ≤ reachBytes ∧ ∀ i, i < s.l → ∃ a cs', s.a = some a ∧ cs'.length = P.cellsOf e ∧ (∀ j v, cs'[j]? = some v → w.cell? (a.add (i * P.cellsOf e + j)) = some v) ∧ Rd enc P w e cs' := by
  obtain ⟨fuel, x, h, hz⟩ := h
  rcases DataW.trod_slice ht h with ⟨h1, _⟩ | ⟨a, len, cap, elems, rest, n, _, h1, hx, _, hl, hc, hel, he, hr, _⟩
  · exact ⟨Slc.nil, h1, Nat.le_refl _, by simp, fun i hi => by simp at hi⟩
  · subst hx
    refine ⟨⟨some a, len, cap⟩, h1, hl, ?_, fun i hi => ?_⟩
    · have := hz ((elems.length + rest.length) * P.bytesOf e) (by simp [DataW.weights, ht])
      exact Nat.le_trans (Nat.mul_le_mul_right _ (by simp only; omega)) this
    · simp only at hi
      have h2 := he i hi
      rw [List.getElem?_eq_getElem (by omega)] at h2
      obtain ⟨cs', h3, h4⟩ := Option.bind_eq_some_iff.1 h2
      obtain ⟨_, h5, h6⟩ := World.cells?_some h3
      refine ⟨a, cs', rfl, h5, fun j v hv => ?_, n, _, h4, fun m hm => hz m ?_⟩
      · have hj : j < P.cellsOf e := by have := (List.getElem?_eq_some_iff.1 hv).1; omega
        rw [← add_add, h6 j hj, hv]
      · simp only [DataW.weights, ht, List.mem_cons, List.mem_append]
        right; left
        exact weights_mem_all (d := (elems[i]'(by omega)).1) (List.mem_map.2 ⟨_, List.getElem_mem _, rfl⟩) hm
theorem choice {α : Type} {n : Nat} {R : Nat → α → Prop} (h : ∀ i, i < n → ∃ x, R i x) : ∃ l : List α, l.length = n ∧ ∀ i (hi : i < l.length), R i l[i] := by
  induction n with
  | zero => exact ⟨[], rfl, fun i hi => by simp at hi⟩
  | succ n ih =>
    obtain ⟨l, h1, h2⟩ := ih fun i hi => h i (by omega)
    obtain ⟨x, hx⟩ := h n (by omega)
    refine ⟨l ++ [x], by simp [h1], fun i hi => ?_⟩
    by_cases hl : i < l.length
    · rw [List.getElem_append_left hl]; exact h2 i hl
    · have : i = n := by simp at hi; omega
      subst this
      rw [List.getElem_append_right (by omega)]
      simpa using hx
theorem Rd.bytes {e : TypeId} (h : Rd enc P w t cs) (ht : P.underlying t = some (.slice e)) (he : P.underlying e = some (.int .u8)) (h1 : P.cellsOf e = 1) (hb : P.bytesOf e = 1) :
    ∃ (s : Slc) (bs : List UInt8), cs = [s.v] ∧ Byt w s bs ∧ bs.length ≤ reachBytes := by
  obtain ⟨s, hs, hl, hr, hi⟩ := h.slice ht
  obtain ⟨bs, hbl, hbs⟩ := choice (R := fun i (b : UInt8) => ∃ a, s.a = some a ∧ w.cell? (a.add i) = some (u8v b)) (n := s.l) fun i hlt => by
    obtain ⟨a, cs', ha, hl', hc, hd⟩ := hi i hlt
    obtain ⟨n, hn, hwf⟩ := hd.int he
    subst hn
    have h2 := hc 0 _ rfl
    rw [h1, Nat.mul_one, Nat.add_zero] at h2
    simp only [Lit.wf, Bool.and_eq_true, decide_eq_true_eq] at hwf
    have e1 : IntKind.u8.min = 0 := rfl
    have e2 : IntKind.u8.max = 255 := rfl
    rw [e1, e2] at hwf
    refine ⟨UInt8.ofNat n.toNat, a, ha, ?_⟩
    rw [h2]
    have := u8_ofNat (n := n.toNat) (by omega)
    rw [u8v, this]
    congr 2
    omega
  refine ⟨s, bs, hs, ⟨by simp [hbl], hl, fun i v hv => ?_⟩, by rw [hbl]; rw [hb] at hr; omega⟩
  simp only [List.getElem?_map, Option.map_eq_some_iff] at hv
  obtain ⟨b, hb, rfl⟩ := hv
  obtain ⟨hlt, rfl⟩ := List.getElem?_eq_some_iff.1 hb
  exact hbs i hlt
end

section
variable {ps : Array TypeId} {args : Array Value} {W : World} {base : Nat} (hval : ∀ (j : Nat) t v, ps[j]? = some t → args[j]? = some v → Value.okWide P W .any base t v)
include hval
theorem arg_struct {j : Nat} {t : TypeId} {v : Value} {fs : Array Field} (ht : P.underlying t = some (.struct fs)) (h1 : ps[j]? = some t) (h2 : args[j]? = some v) : ∃ cs, v = .agg cs := by
  obtain ⟨cs, h, _⟩ := okWide_struct ht (hval j t v h1 h2)
  exact ⟨cs, h⟩
theorem arg_slice {j : Nat} {t e : TypeId} {v : Value} (ht : P.underlying t = some (.slice e)) (h1 : ps[j]? = some t) (h2 : args[j]? = some v) : ∃ s : Slc, v = s.v := by
  obtain ⟨a, l, c, h⟩ := okWide_slice ht (hval j t v h1 h2)
  exact ⟨⟨a, l, c⟩, h⟩
theorem arg_bool {j : Nat} {t : TypeId} {v : Value} (ht : P.underlying t = some .bool) (h1 : ps[j]? = some t) (h2 : args[j]? = some v) : ∃ n, v = .bool n := okWide_bool ht (hval j t v h1 h2)
end
theorem agg_of {cs : Array Value} {l : List Value} (h : (Value.agg cs).cells.toList = l) : cs = l.toArray := by
  have : cs.toList = l := h
  rw [← this]
theorem slc_of {s s' : Slc} (h : (Slc.v s).cells.toList = [Slc.v s']) : s = s' := by
  have h2 : [Slc.v s] = [Slc.v s'] := h
  injection h2 with h3
  injection h3 with h4 h5 h6
  cases s; cases s'; simp_all
/-! ## The whole of what was read -/
theorem trodAll_len {W : World} : ∀ {ts : List TypeId} {vs : List Value} {ds : List (DataW H)} {ps : List MemPlace}, DataW.TrodAll enc P W 0 (fun _ => true) true ts vs ds ps → vs.length = ts.length
  | [], _, _, _, h => by obtain ⟨rfl, _, _⟩ := trodAll_nil h; rfl
  | t0 :: ts, vs, ds, ps, h => by
    obtain ⟨v, vs', d, ds', p, q, rfl, rfl, rfl, h1, h2⟩ := trodAll_cons h
    simp [trodAll_len h2]
theorem trodAll_stays (hl : laidOutB P = true) {W W' : World} {sp : Nat → Bool} : ∀ {ts : List TypeId} {vs : List Value} {ds : List (DataW H)} {ps : List MemPlace}, (∀ t ∈ ts, P.readableRec t = true ∧ t < P.types.size) → DataW.TrodAll enc P W 0 (fun _ => true) true ts vs ds ps →
    (∀ p ∈ ps, W.sameAt W' p) → (∀ p ∈ ps, sp p.block = true) → DataW.TrodAll enc P W' 0 sp true ts vs ds ps
  | [], _, _, _, _, h, _, _ => by
    obtain ⟨rfl, rfl, rfl⟩ := trodAll_nil h
    exact trodAll_mk0
  | t0 :: ts, vs, ds, ps, ht, h, h1, h2 => by
    obtain ⟨v, vs', d, ds', p, q, rfl, rfl, rfl, h3, h4⟩ := trodAll_cons h
    obtain ⟨a, b⟩ := ht t0 (by simp)
    exact trodAll_cons_mk (WideElems.Trod_stays hl a b h3 (fun x hx => h1 x (List.mem_append_left _ hx)) (fun x hx => h2 x (List.mem_append_left _ hx)))
      (trodAll_stays hl (fun t h => ht t (by simp [h])) h4 (fun x hx => h1 x (List.mem_append_right _ hx)) (fun x hx => h2 x (List.mem_append_right _ hx)))
theorem Fr.kept {W W' : World} (h : Fr [] W W') (may : MemPlace → Prop) : W.keptBut W' may := by
  refine ⟨h.os, h.output, fun i hi => ?_⟩
  rw [h.block i hi (by simp)]
  cases W.heap[i]? with
  | none => rfl
  | some o =>
    cases o <;> first | exact ⟨rfl, rfl, rfl, fun _ _ => rfl⟩ | exact .inr ⟨rfl, rfl⟩ | rfl
theorem Fr.froz {W W' : World} (h : Fr [] W W') {a : Addr} (ha : a.block < W.heap.size) : W'.frozen? a = W.frozen? a := by
  unfold World.frozen?
  rw [h.block _ ha (by simp)]
theorem post_true {f : Func} {s : ChangeSpec} {apart fresh handsOn again : Bool} {W W' : World} {args : Array Value} {ds gs : List (DataW H)} {before : List MemPlace} {tb : TypeId} (hl : laidOutB P = true)
    (hrd : ∀ t ∈ f.params.toList, P.readableRec t = true ∧ t < P.types.size) (hvs : s.vars = []) (hW : DataW.Whole enc P f.params.toList s.vars apart W args.toList ds gs before) (hfr : Fr [] W W')
    (hres : f.resultTypes = #[tb]) (hb : P.underlying tb = some .bool) (hs : s.fn H (ds ++ gs) = { results := [.lit (.bool true)], args := ds }) : s.post enc P f apart fresh handsOn again W args (.bool true) W' := by
  have hlt : ∀ p ∈ before, p.block < W.heap.size := fun p hp => by simpa using hW.lt p hp
  have hW0 := hW
  obtain ⟨p, q, hA, hV, rfl, hz, hn⟩ := hW
  rw [hvs] at hV
  obtain ⟨rfl, rfl⟩ := trodVars_none hV
  simp only [List.append_nil] at hW0 hz hn hlt hs ⊢
  have hsame : ∀ x ∈ p, W.sameAt W' x := fun x hx => hfr.below.same (hlt x hx)
  have hr1 : ∀ (b : Nat) (sp : Nat → Bool) (hd : Bool), DataW.TrodAll enc P W' b sp hd f.resultTypes.toList ((Value.bool true).resultList f.resultTypes.size) [.lit (.bool true)] [] := fun b sp hd => by
    rw [hres]
    exact trodAll_cons_mk (shut_bool hb true) trodAll_mk0
  have hvars : ∀ sp : Nat → Bool, DataW.TrodVars enc P W' sp s.vars [] [] := fun sp => by rw [hvs]; rfl
  refine ⟨ds, [], p, [], p, [], hW0, ?_, ?_, ?_, hfr.kept _, fun _ => ?_⟩
  · simp only [List.append_nil]
    rw [hs]
    exact hr1 _ _ _
  · simp only [List.append_nil]
    rw [hs]
    exact trodAll_stays hl hrd hA hsame fun x hx => by simpa using hlt x hx
  · simp only [List.append_nil]
    rw [hs]
    exact hvars _
  · refine ⟨fun j t r h1 h2 => ?_, .lit (.bool true) :: ds, [], p, ⟨p, [], ?_, ?_, by simp, ?_, ?_⟩, ?_⟩
    · rw [hres] at h1 h2
      obtain rfl : j = 0 := by
        have := (Array.getElem?_eq_some_iff.1 h1).1
        simp at this
        omega
      simp [Value.resultList] at h1 h2
      subst h1 h2
      exact okWide_bool_mk hb _
    · have := trodAll_append (trodAll_stays (sp := fun _ => true) hl hrd hA hsame fun _ _ => rfl) (hr1 0 (fun _ => true) true)
      simpa using this
    · exact hvars _
    · intro b off hp
      rw [hfr.froz (hlt _ hp)]
      exact hz b off hp
    · exact hn
    · intro x hx _
      exact hx
end
end Go.Vc

namespace Go.Proofs.YtabifopphhpciaaGreatDoor
open Go Go.Vc Go.ChangeShapes Go.WideShapes Go.RowKit
section
variable {H : Type} {enc : TypeId × Value → H} {P : Program}
theorem bulk_one (d : DataW H) : 1 ≤ Rows.uptoBulk d := by
  cases d with
  | lit l => cases l <;> simp [Rows.uptoBulk]
  | nil => simp [Rows.uptoBulk]
  | ptr d => simp [Rows.uptoBulk]
  | slice elems spare => simp [Rows.uptoBulk]
  | agg parts => simp [Rows.uptoBulk]
  | iface t d => simp [Rows.uptoBulk]
  | map entries => simp [Rows.uptoBulk]
  | held h => simp [Rows.uptoBulk]
theorem bulk_part {d : DataW H} {l : List (DataW H)} (h : d ∈ l) : Rows.uptoBulk d ≤ Rows.uptoBulkAll l := by
  induction l with
  | nil => cases h
  | cons x r ih =>
    simp only [Rows.uptoBulkAll]
    cases List.mem_cons.1 h with
    | inl e => subst e; omega
    | inr e => have := ih e; omega
theorem bulk_len (l : List (DataW H)) : l.length ≤ Rows.uptoBulkAll l := by
  induction l with
  | nil => simp [Rows.uptoBulkAll]
  | cons x r ih => have := bulk_one x; simp only [Rows.uptoBulkAll, List.length_cons]; omega
def Ru (enc : TypeId × Value → H) (P : Program) (b : Nat) (w : World) (t : TypeId) (cs : List Value) : Prop :=
  ∃ fuel x, DataW.trod enc P w 0 (fun _ => true) true fuel t cs = some x ∧ (∀ n ∈ x.1.weights P t, n ≤ reachBytes) ∧ Rows.uptoBulk x.1 ≤ b
section
variable {w : World} {t : TypeId} {cs : List Value} {b : Nat}
theorem Ru.rd (h : Ru enc P b w t cs) : Rd enc P w t cs := by obtain ⟨f, x, h1, h2, _⟩ := h; exact ⟨f, x, h1, h2⟩
theorem Ru.int {k : IntKind} (h : Ru enc P b w t cs) (ht : P.underlying t = some (.int k)) : ∃ n, cs = [.int k n] ∧ (Lit.int k n).wf = true := h.rd.int ht
theorem Ru.bool (h : Ru enc P b w t cs) (ht : P.underlying t = some .bool) : ∃ n, cs = [.bool n] := h.rd.bool ht
theorem Ru.str (h : Ru enc P b w t cs) (ht : P.underlying t = some .string) : ∃ s : ByteArray, cs = [.string s] ∧ s.size < b := by
  obtain ⟨fuel, x, h, _, hb⟩ := h
  obtain ⟨s, h1, h2, _⟩ := DataW.trod_string ht h
  refine ⟨s, h1, ?_⟩
  subst h2
  simp only [Rows.uptoBulk] at hb
  have : s.data.toList.length = s.size := by simp
  omega
theorem Ru.len (h : Ru enc P b w t cs) {i off u : Nat} (hf : fldTyB P t i off u = true) : cs.length = P.cellsOf t := h.rd.len hf
theorem Ru.fld (h : Ru enc P b w t cs) {i off u : Nat} (hf : fldTyB P t i off u = true) : Ru enc P b w u ((cs.drop off).take (P.cellsOf u)) := by
  obtain ⟨fuel, x, h, hz, hb⟩ := h
  unfold fldTyB at hf
  split at hf
  · rename_i fs hu
    split at hf
    · rename_i f hfi
      simp only [Bool.and_eq_true] at hf
      have e1 : f.offset = off := Nat.eq_of_beq_eq_true hf.1
      have e2 : f.type = u := Nat.eq_of_beq_eq_true hf.2
      obtain ⟨xs, n, _, hx, _, hl, hg⟩ := DataW.trod_struct hu h
      have h1 := hg i f hfi
      have hi : i < fs.size := (Array.getElem?_eq_some_iff.1 hfi).1
      rw [List.getElem?_eq_getElem (by omega)] at h1
      rw [e1, e2] at h1
      refine ⟨n, _, h1, fun m hm => hz m ?_, ?_⟩
      · rw [hx]
        simp only [DataW.weights, hu]
        refine DataW.weights_mem_each (j := i) (t := u) (d := (xs[i]'(by omega)).1) ?_ ?_ m hm
        · have : fs.toList[i]? = some f := by simpa using hfi
          simp [List.getElem?_map, this, e2]
        · rw [List.getElem?_map, List.getElem?_eq_getElem (by omega)]
          rfl
      · rw [hx] at hb
        simp only [Rows.uptoBulk] at hb
        have := bulk_part (d := (xs[i]'(by omega)).1) (l := xs.map (·.1)) (List.mem_map.2 ⟨_, List.getElem_mem _, rfl⟩)
        omega
    · cases hf
  · cases hf
theorem Ru.slice {e : TypeId} (h : Ru enc P b w t cs) (ht : P.underlying t = some (.slice e)) :
    ∃ s : Slc, cs = [s.v] ∧ s.l ≤ s.c ∧ s.l < b + 1 ∧ ∀ i, i < s.l → ∃ a cs', s.a = some a ∧ cs'.length = P.cellsOf e ∧ (∀ j v, cs'[j]? = some v → w.cell? (a.add (i * P.cellsOf e + j)) = some v) ∧ Ru enc P b w e cs' := by
  obtain ⟨fuel, x, h, hz, hb⟩ := h
  rcases DataW.trod_slice ht h with ⟨h1, _⟩ | ⟨a, len, cap, elems, rest, n, _, h1, hx, _, hl, hc, hel, he, hr, _⟩
  · exact ⟨Slc.nil, h1, Nat.le_refl _, by simp, fun i hi => by simp at hi⟩
  · subst hx
    simp only [Rows.uptoBulk] at hb
    have hbl := bulk_len (elems.map (·.1))
    rw [List.length_map] at hbl
    refine ⟨⟨some a, len, cap⟩, h1, hl, by simp only; omega, fun i hi => ?_⟩
    simp only at hi
    have h2 := he i hi
    rw [List.getElem?_eq_getElem (by omega)] at h2
    obtain ⟨cs', h3, h4⟩ := Option.bind_eq_some_iff.1 h2
    obtain ⟨_, h5, h6⟩ := World.cells?_some h3
    have hmem : (elems[i]'(by omega)).1 ∈ elems.map (·.1) := List.mem_map.2 ⟨_, List.getElem_mem _, rfl⟩
    refine ⟨a, cs', rfl, h5, fun j v hv => ?_, n, _, h4, fun m hm => hz m ?_, ?_⟩
    · have hj : j < P.cellsOf e := by have := (List.getElem?_eq_some_iff.1 hv).1; omega
      rw [← add_add, h6 j hj, hv]
    · simp only [DataW.weights, ht, List.mem_cons, List.mem_append]
      right; left
      exact weights_mem_all (d := (elems[i]'(by omega)).1) hmem hm
    · have := bulk_part hmem
      omega
theorem Ru.bytes {e : TypeId} (h : Ru enc P b w t cs) (ht : P.underlying t = some (.slice e)) (he : P.underlying e = some (.int .u8)) (h1 : P.cellsOf e = 1) (hb : P.bytesOf e = 1) :
    ∃ (s : Slc) (bs : List UInt8), cs = [s.v] ∧ Byt w s bs ∧ bs.length ≤ b := by
  obtain ⟨s, bs, hs, hB, _⟩ := h.rd.bytes ht he h1 hb
  obtain ⟨s', hs', _, hl, _⟩ := h.slice ht
  refine ⟨s, bs, hs, hB, ?_⟩
  rw [hs] at hs'
  obtain rfl : s = s' := slc_of (s := s) (s' := s') (by rw [← hs']; rfl)
  have := hB.len
  omega
theorem Ru.elems {e : TypeId} {α : Type} (R : α → List Value → Prop) (h : Ru enc P b w t cs) (ht : P.underlying t = some (.slice e)) (step : ∀ cs', Ru enc P b w e cs' → ∃ x, R x cs') :
    ∃ (s : Slc) (l : List α), cs = [s.v] ∧ s.l = l.length ∧ s.l ≤ s.c ∧ l.length ≤ b ∧ ∀ i (hi : i < l.length), ∃ a cs', s.a = some a ∧ R l[i] cs' ∧ cs'.length = P.cellsOf e ∧ ∀ j v, cs'[j]? = some v → w.cell? (a.add (i * P.cellsOf e + j)) = some v := by
  obtain ⟨s, hs, hc, hl, hi⟩ := h.slice ht
  obtain ⟨l, h1, h2⟩ := choice (R := fun i (x : α) => ∃ a cs', s.a = some a ∧ R x cs' ∧ cs'.length = P.cellsOf e ∧ ∀ j v, cs'[j]? = some v → w.cell? (a.add (i * P.cellsOf e + j)) = some v) (n := s.l) fun i hlt => by
    obtain ⟨a, cs', ha, hl', hc, hd⟩ := hi i hlt
    obtain ⟨x, hx⟩ := step cs' hd
    exact ⟨x, a, cs', ha, hx, hl', hc⟩
  exact ⟨s, l, hs, h1.symm, hc, by omega, h2⟩
end
/-! ## The whole of what was read -/
theorem ru_all {W : World} {b : Nat} : ∀ {ts : List TypeId} {vs : List Value} {ds : List (DataW H)} {ps : List MemPlace}, DataW.TrodAll enc P W 0 (fun _ => true) true ts vs ds ps → (∀ n ∈ DataW.weightsEach P ts ds, n ≤ reachBytes) → Rows.uptoBulkAll ds ≤ b →
    ∀ (j : Nat) (t : TypeId), ts[j]? = some t → ∃ v, vs[j]? = some v ∧ Ru enc P b W t v.cells.toList
  | [], _, _, _, _, _, _ => fun j t h => by simp at h
  | t0 :: ts, vs, ds, ps, h, hz, hb => by
    obtain ⟨v, vs', d, ds', p, q, rfl, rfl, rfl, h1, h2⟩ := trodAll_cons h
    simp only [Rows.uptoBulkAll] at hb
    intro j t ht
    cases j with
    | zero =>
      simp only [List.getElem?_cons_zero, Option.some.injEq] at ht
      subst ht
      obtain ⟨fuel, hf⟩ := h1
      exact ⟨v, rfl, fuel, _, hf, fun n hn => hz n (by simp only [DataW.weightsEach, List.mem_append]; exact .inl hn), by simp only; omega⟩
    | succ j =>
      simp only [List.getElem?_cons_succ] at ht ⊢
      exact ru_all h2 (fun n hn => hz n (by simp only [DataW.weightsEach, List.mem_append]; exact .inr hn)) (by omega) j t ht
end
theorem trodAll_dlen {H : Type} {enc : TypeId × Value → H} {P : Program} {W : World} : ∀ {ts : List TypeId} {vs : List Value} {ds : List (DataW H)} {ps : List MemPlace}, DataW.TrodAll enc P W 0 (fun _ => true) true ts vs ds ps → ds.length = ts.length
  | [], _, _, _, h => by obtain ⟨_, rfl, _⟩ := trodAll_nil h; rfl
  | t0 :: ts, vs, ds, ps, h => by
    obtain ⟨v, vs', d, ds', p, q, rfl, rfl, rfl, h1, h2⟩ := trodAll_cons h
    simp [trodAll_dlen h2]
theorem list3 {α : Type} {a : List α} (h : a.length = 3) : ∃ x y z, a = [x, y, z] := by
  match a, h with
  | [x, y, z], _ => exact ⟨x, y, z, rfl⟩
theorem args3 {α : Type} {a : Array α} (h : a.toList.length = 3) : ∃ x y z, a = #[x, y, z] := by
  obtain ⟨l⟩ := a
  match l, h with
  | [x, y, z], _ => exact ⟨x, y, z, rfl⟩
theorem val_of {v : Value} {l : List Value} (h : ∃ cs, v = .agg cs) (e : v.cells.toList = l) : v = .agg l.toArray := by
  obtain ⟨cs, rfl⟩ := h
  rw [agg_of e]
theorem val_of_slc {v : Value} {s : Slc} (h : ∃ s : Slc, v = s.v) (e : v.cells.toList = [s.v]) : v = s.v := by
  obtain ⟨m, rfl⟩ := h
  rw [slc_of e]
theorem val_of_bool {v : Value} {n : Bool} (h : ∃ n, v = .bool n) (e : v.cells.toList = [.bool n]) : v = .bool n := by
  obtain ⟨m, rfl⟩ := h
  have h2 : [Value.bool m] = [.bool n] := e
  injection h2
end Go.Proofs.YtabifopphhpciaaGreatDoor

namespace Go.Proofs.YtabifopphhpciaaGreatDoor
open Go Go.Vc Go.Vc.Asn Go.Gf
section
variable {w : World} {V I P : Slc} {vs : Rws} {is ps : List Int} {a b : Int} {key : ByteArray} {top : Tg}
end
end Go.Proofs.YtabifopphhpciaaGreatDoor

namespace Go.Proofs.YtabifopphhpciaaGreatDoor
open Go Go.Vc Go.ChangeShapes Go.WideShapes Go.RowKit
theorem own : ownKnob PP.godebug = none := by kernel_rfl
theorem laidOut : laidOutB PP = true := by kernel_rfl
theorem und_bool : PP.underlying Ty_bool = some .bool := by kernel_rfl
theorem cells_int : PP.cellsOf Ty_int = 1 := by kernel_rfl
theorem cells_uint8 : PP.cellsOf Ty_uint8 = 1 := by kernel_rfl
theorem bytes_uint8 : PP.bytesOf Ty_uint8 = 1 := by kernel_rfl
theorem cells_slu8 : PP.cellsOf Ty_sl_uint8 = 1 := by kernel_rfl
theorem cells_slslu8 : PP.cellsOf Ty_sl_sl_uint8 = 1 := by kernel_rfl
theorem cells_slint : PP.cellsOf Ty_sl_int = 1 := by kernel_rfl
theorem cells_Tale : PP.cellsOf Ty_sherdlaw18_Tale = 5 := by kernel_rfl
theorem cells_Tag : PP.cellsOf Ty_api_Tag = 2 := by kernel_rfl
theorem slT_sl_sl : PP.underlying Ty_sl_sl_uint8 = some (.slice Ty_sl_uint8) := by kernel_rfl
noncomputable def laidWorld (os : Os) : World :=
  { World.holding PP os ⟨#[], #[], []⟩ with heap := (World.holding PP os ⟨#[], #[], []⟩).heap.modify 0 fun
      | .cells _ t frozen => .cells #[.iface 277 (.agg #[.pointer (some ⟨1, 243, none⟩)])] t frozen
      | o => o }
section
variable {H : Type} {enc : TypeId × Value → H} {w : World} {cs : List Value} {b : Nat}
theorem len2 {α : Type} {l : List α} (h : l.length = 2) : ∃ a b, l = [a, b] := by
  match l, h with
  | [a, b], _ => exact ⟨a, b, rfl⟩
theorem len5 {α : Type} {l : List α} (h : l.length = 5) : ∃ a b c d e, l = [a, b, c, d, e] := by
  match l, h with
  | [a, b, c, d, e], _ => exact ⟨a, b, c, d, e, rfl⟩
theorem ru_int (h : Ru enc PP b w Ty_int cs) : ∃ n, cs = [.int .i64 n] := by
  obtain ⟨n, hn, _⟩ := h.int und_int
  exact ⟨n, hn⟩
theorem ru_str (h : Ru enc PP b w Ty_string cs) : ∃ s : ByteArray, cs = [.string s] := by
  obtain ⟨s, hs, _⟩ := h.str und_string
  exact ⟨s, hs⟩
theorem ru_ints (h : Ru enc PP b w Ty_sl_int cs) : ∃ (s : Slc) (l : List Int), cs = [s.v] ∧ Cel w s 1 (l.map fun x => Value.int .i64 x) ∧ l.length ≤ b := by
  obtain ⟨s, l, h1, h2, h3, h4, h5⟩ := h.elems (R := fun (m : Int) cs => cs = [.int .i64 m]) (show PP.underlying Ty_sl_int = some (.slice Ty_int) by kernel_rfl) fun cs' h' => ru_int h'
  rw [cells_int] at h5
  refine ⟨s, l, h1, ⟨by simp [h2], h3, fun i v hv => ?_⟩, h4⟩
  have hlt : i < l.length := by have := (List.getElem?_eq_some_iff.1 hv).1; simpa using this
  rw [List.getElem?_map, List.getElem?_eq_getElem hlt] at hv
  injection hv with hv
  obtain ⟨a, cs', ha, rfl, _, hc⟩ := h5 i hlt
  refine ⟨a, ha, ?_⟩
  have := hc 0 _ rfl
  rw [Nat.mul_one, Nat.add_zero] at this
  rw [this, ← hv]
theorem ru_rows (h : Ru enc PP b w Ty_sl_sl_uint8 cs) : ∃ (s : Slc) (l : Rws), cs = [s.v] ∧ RdR w s l ∧ l.length ≤ b ∧ ∀ r ∈ l, r.2.length ≤ b := by
  obtain ⟨s, l, h1, h2, h3, h4, h5⟩ := h.elems (R := fun (r : Slc × List UInt8) cs => cs = [r.1.v] ∧ Byt w r.1 r.2 ∧ r.2.length ≤ b) slT_sl_sl fun cs' h' => by
    obtain ⟨s, bs, e, hB, hl⟩ := h'.bytes slT_sl_uint8.ut und_uint8 cells_uint8 bytes_uint8
    exact ⟨(s, bs), e, hB, hl⟩
  rw [cells_slu8] at h5
  refine ⟨s, l, h1, ⟨⟨by simp [h2], h3, fun i v hv => ?_⟩, fun r hr => ?_⟩, h4, fun r hr => ?_⟩
  · have hlt : i < l.length := by have := (List.getElem?_eq_some_iff.1 hv).1; simpa using this
    rw [List.getElem?_map, List.getElem?_eq_getElem hlt] at hv
    injection hv with hv
    obtain ⟨a, cs', ha, ⟨rfl, _⟩, _, hc⟩ := h5 i hlt
    refine ⟨a, ha, ?_⟩
    have := hc 0 _ rfl
    rw [Nat.mul_one, Nat.add_zero] at this
    rw [this, ← hv]
  · obtain ⟨i, hi, rfl⟩ := List.getElem_of_mem hr
    obtain ⟨_, _, _, ⟨_, hB, _⟩, _⟩ := h5 i hi
    exact hB
  · obtain ⟨i, hi, rfl⟩ := List.getElem_of_mem hr
    obtain ⟨_, _, _, ⟨_, _, hl⟩, _⟩ := h5 i hi
    exact hl
theorem ru_tag (h : Ru enc PP b w Ty_api_Tag cs) : ∃ t : Tg, cs = [.int .i64 t.n, .int .i64 t.c] := by
  have hl := h.len (i := 0) (off := 0) (u := Ty_int64) (by kernel_rfl)
  rw [cells_Tag] at hl
  obtain ⟨a, bb, rfl⟩ := len2 hl
  have h0 := h.fld (i := 0) (off := 0) (u := Ty_int64) (by kernel_rfl)
  have h1 := h.fld (i := 1) (off := 1) (u := Ty_int) (by kernel_rfl)
  rw [show PP.cellsOf Ty_int64 = 1 by kernel_rfl] at h0
  rw [cells_int] at h1
  obtain ⟨n0, e0, _⟩ := h0.int (k := .i64) (by kernel_rfl)
  obtain ⟨n1, e1⟩ := ru_int h1
  simp at e0 e1
  subst e0 e1
  exact ⟨⟨n0, n1⟩, rfl⟩
theorem ru_tale (h : Ru enc PP b w Ty_sherdlaw18_Tale cs) : ∃ (N K : Int) (V I P : Slc) (vs : Rws) (is ps : List Int), cs = [.int .i64 N, .int .i64 K, V.v, I.v, P.v] ∧ RdR w V vs ∧ vs.length ≤ b ∧ (∀ r ∈ vs, r.2.length ≤ b) ∧ Cel w I 1 (is.map fun x => Value.int .i64 x) ∧ is.length ≤ b ∧ Cel w P 1 (ps.map fun x => Value.int .i64 x) ∧ ps.length ≤ b := by
  have hl := h.len (i := 0) (off := 0) (u := Ty_int) (by kernel_rfl)
  rw [cells_Tale] at hl
  obtain ⟨a, bb, c, d, e, rfl⟩ := len5 hl
  have h0 := h.fld (i := 0) (off := 0) (u := Ty_int) (by kernel_rfl)
  have h1 := h.fld (i := 1) (off := 1) (u := Ty_int) (by kernel_rfl)
  have h2 := h.fld (i := 2) (off := 2) (u := Ty_sl_sl_uint8) (by kernel_rfl)
  have h3 := h.fld (i := 3) (off := 3) (u := Ty_sl_int) (by kernel_rfl)
  have h4 := h.fld (i := 4) (off := 4) (u := Ty_sl_int) (by kernel_rfl)
  rw [cells_int] at h0 h1
  rw [cells_slslu8] at h2
  rw [cells_slint] at h3 h4
  obtain ⟨n0, e0⟩ := ru_int h0
  obtain ⟨n1, e1⟩ := ru_int h1
  obtain ⟨s2, l2, e2, hR2, hl2, hb2⟩ := ru_rows h2
  obtain ⟨s3, z3, e3, hZ3, hz3⟩ := ru_ints h3
  obtain ⟨s4, z4, e4, hZ4, hz4⟩ := ru_ints h4
  simp at e0 e1 e2 e3 e4
  subst e0 e1 e2 e3 e4
  exact ⟨n0, n1, s2, s3, s4, l2, z3, z4, rfl, hR2, hl2, hb2, hZ3, hz3, hZ4, hz4⟩
end
end Go.Proofs.YtabifopphhpciaaGreatDoor

namespace Go.Proofs.YtabifopphhpciaaGreatDoor
open Go Go.Vc Go.ChangeShapes Go.WideShapes Go.RowKit
theorem cells_Msg : PP.cellsOf Ty_api_Message = 11 := by kernel_rfl
theorem cells_i64 : PP.cellsOf Ty_int64 = 1 := by kernel_rfl
theorem cells_str : PP.cellsOf Ty_string = 1 := by kernel_rfl
theorem cells_bool : PP.cellsOf Ty_bool = 1 := by kernel_rfl
section
variable {H : Type} {enc : TypeId × Value → H} {w : World} {cs : List Value} {b : Nat}
theorem len11 {α : Type} {l : List α} (h : l.length = 11) : ∃ a b c d e f g h i j k, l = [a, b, c, d, e, f, g, h, i, j, k] := by
  match l, h with
  | [a, b, c, d, e, f, g, h, i, j, k], _ => exact ⟨a, b, c, d, e, f, g, h, i, j, k, rfl⟩
theorem ru_bool (h : Ru enc PP b w Ty_bool cs) : ∃ n, cs = [.bool n] := h.bool und_bool
theorem ru_i64 (h : Ru enc PP b w Ty_int64 cs) : ∃ n, cs = [.int .i64 n] := by
  obtain ⟨n, hn, _⟩ := h.int (k := .i64) (by kernel_rfl)
  exact ⟨n, hn⟩
theorem ru_msg (h : Ru enc PP b w Ty_api_Message cs) : ∃ m : Ms, cs = m.c := by
  have hl := h.len (i := 0) (off := 0) (u := Ty_int) (by kernel_rfl)
  rw [cells_Msg] at hl
  obtain ⟨c0, c1, c2, c3, c4, c5, c6, c7, c8, c9, c10, rfl⟩ := len11 hl
  have h0 := h.fld (i := 0) (off := 0) (u := Ty_int) (by kernel_rfl)
  have h1 := h.fld (i := 1) (off := 1) (u := Ty_int) (by kernel_rfl)
  have h2 := h.fld (i := 2) (off := 2) (u := Ty_int) (by kernel_rfl)
  have h3 := h.fld (i := 3) (off := 3) (u := Ty_int64) (by kernel_rfl)
  have h4 := h.fld (i := 4) (off := 4) (u := Ty_string) (by kernel_rfl)
  have h5 := h.fld (i := 5) (off := 5) (u := Ty_api_Tag) (by kernel_rfl)
  have h6 := h.fld (i := 6) (off := 7) (u := Ty_api_Tag) (by kernel_rfl)
  have h7 := h.fld (i := 7) (off := 9) (u := Ty_bool) (by kernel_rfl)
  have h8 := h.fld (i := 8) (off := 10) (u := Ty_sl_uint8) (by kernel_rfl)
  rw [cells_int] at h0 h1 h2
  rw [cells_i64] at h3
  rw [cells_str] at h4
  rw [cells_Tag] at h5 h6
  rw [cells_bool] at h7
  rw [cells_slu8] at h8
  obtain ⟨n0, e0⟩ := ru_int h0
  obtain ⟨n1, e1⟩ := ru_int h1
  obtain ⟨n2, e2⟩ := ru_int h2
  obtain ⟨n3, e3⟩ := ru_i64 h3
  obtain ⟨n4, e4⟩ := ru_str h4
  obtain ⟨n5, e5⟩ := ru_tag h5
  obtain ⟨n6, e6⟩ := ru_tag h6
  obtain ⟨n7, e7⟩ := ru_bool h7
  obtain ⟨s8, b8, e8, _, _⟩ := h8.bytes slT_sl_uint8.ut und_uint8 cells_uint8 bytes_uint8
  simp at e0 e1 e2 e3 e4 e5 e6 e7 e8
  obtain ⟨rfl, rfl⟩ := e5
  obtain ⟨rfl, rfl⟩ := e6
  subst e0 e1 e2 e3 e4 e7 e8
  exact ⟨⟨n0, n1, n2, n3, n4, n5, n6, n7, s8, []⟩, rfl⟩
theorem ru_msgs (h : Ru enc PP b w Ty_sl_api_Message cs) : ∃ (s : Slc) (l : List Ms), cs = [s.v] ∧ Cel w s 11 (l.flatMap Ms.c) ∧ l.length ≤ b := by
  obtain ⟨s, l, h1, h2, h3, h4, h5⟩ := h.elems (R := fun (m : Ms) cs => cs = m.c) slT_sl_api_Message.ut fun cs' h' => ru_msg h'
  rw [cells_Msg] at h5
  refine ⟨s, l, h1, ⟨by rw [flat_len (enc := Ms.c) ms_len, h2], h3, fun i v hv => ?_⟩, h4⟩
  have hlt : i < l.length * 11 := by have := (List.getElem?_eq_some_iff.1 hv).1; rw [flat_len (enc := Ms.c) ms_len] at this; exact this
  rw [flat_get (enc := Ms.c) ms_len l i hlt] at hv
  have hd : i / 11 < l.length := by omega
  rw [List.getElem?_eq_getElem hd] at hv
  obtain ⟨a, cs', ha, rfl, _, hc⟩ := h5 (i / 11) hd
  refine ⟨a, ha, ?_⟩
  have := hc (i % 11) v hv
  rw [show i / 11 * 11 + i % 11 = i by omega] at this
  exact this
end
end Go.Proofs.YtabifopphhpciaaGreatDoor
