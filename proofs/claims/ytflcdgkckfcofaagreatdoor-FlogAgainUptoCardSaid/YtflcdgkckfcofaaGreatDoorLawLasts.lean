/-
  FlogLasts' and FlogAgain's contracts.
-/
import Derived.Test.YtflcdgkckfcofaaGreatDoorLawLast
namespace Go.Proofs.YtflcdgkckfcofaaGreatDoor
open Go Go.Vc Go.Vc.Asn Go.Disk
def LastP (k : Int) (X G : List Upd) (e : Int) (Z : List Up) : Prop :=
  (k = 2 ∧ ∃ i, i ≤ G.length ∧ Z = X.map Vc_up ++ (G.map Vc_up).take i ∧ (e = 0 → i = G.length)) ∨ (k = 3 ∧ (Z = G.map Vc_up ∨ (e ≠ 0 ∧ Z = X.map Vc_up))) ∨ (k ≠ 2 ∧ k ≠ 3 ∧ Z = X.map Vc_up)
theorem LastP.among {k : Int} {X G Y : List Upd} {e : Int} {Z : List Up} (h : LastP k X G e Z) (hY : Y.map Vc_up = Z) : Y.map Vc_up = X.map Vc_up ∨ (k = 3 ∧ Y.map Vc_up = G.map Vc_up) ∨ (k = 2 ∧ ∃ i, i ≤ G.length ∧ Y.map Vc_up = X.map Vc_up ++ (G.map Vc_up).take i) := by
  subst hY
  rcases h with ⟨h1, i, h2, h3, _⟩ | ⟨h1, h2 | ⟨_, h2⟩⟩ | ⟨_, _, h⟩
  · exact .inr (.inr ⟨h1, i, h2, h3⟩)
  · exact .inr (.inl ⟨h1, h2⟩)
  · exact .inl h2
  · exact .inl h
section
variable {w0 w : World} {F : Asn} {h g : Slc} {X G : List Upd} {p lp q m : Nat} {L : LogM} {D : DiskM} {x : LifeV} {ops : List OpV}
abbrev Can (p lp q : Nat) (h g : Slc) (X G : List Upd) (L : LogM) (y : List UInt8 × Int) (D : DiskM) (F : Asn) : Asn :=
  star (own Ty_api_Update 7 h (X.map Upd.cells).flatten) (star (own Ty_api_Update 7 g (G.map Upd.cells).flatten) (star (logA lp L) (star (PW q y) (star (diskA p D) F))))
def LastI (w0 : World) (x : LifeV) (p lp : Nat) (h g : Slc) (X G : List Upd) (k : Int) (F : Asn) (e : Int) (w' : World) : Prop :=
  ∃ q' L' D' y, (e = 0 ∨ (e = 60 ∧ L'.broken = 60)) ∧ Gone x D'.p (LastP k X G e) ∧ Hp w0 w' (Can p lp q' h g X G L' y D' F)
theorem last_append {k : Int} (hk : k = 2) (hG : GT w0) (hE : ErrG w0) (hd : L.d = p) (hL : LogSt x L D.p X m) (hq : L.q = some q) (hm : m ≤ 1073741824) (hgb : ∀ u ∈ G, Byt w0 u.data u.ds) (hg : ∀ u ∈ G, GoodU u) (hl : X.length + G.length ≤ 1048576)
    (H : Hp w0 w (Can p lp q h g X G L (wrX x X) D F)) : Calls PP F_flog_Log_Append #[.pointer (some (blk lp)), g.v] w (Rt fun v w' => ∃ e, v = .int .i64 e ∧ LastI w0 x p lp h g X G k F e w') := by
  have H := (((H.own g).take (diskA p D)).take (PW q (wrX x X))).take (logA lp L)
  rw [← hd] at H
  refine Rt.mono (append_stop hG hE hL hq hm (ownUps hgb hg) hg hl H) ?_
  rintro v w1 ⟨e, q', L', D', rfl, he, hd', hgo, y, _, H⟩
  unfold logW at H
  rw [hd', hd] at H
  exact ⟨e, rfl, q', L', D', y, he.imp id fun h => ⟨h.1, h.2.1⟩, hgo.mono fun Z hZ => .inl ⟨hk, hZ⟩, (((((H.take (diskA p D')).take (PW q' y)).take (logA lp L')).own g).own h)⟩
theorem last_compact {k : Int} (hk : k = 3) (hG : GT w0) (hE : ErrG w0) (hd : L.d = p) (hL : LogSt x L D.p X m) (hq : L.q = some q) (hm : m ≤ 1073741824) (hgb : ∀ u ∈ G, Byt w0 u.data u.ds) (hg : ∀ u ∈ G, GoodU u) (hl : G.length ≤ 1048576)
    (H : Hp w0 w (Can p lp q h g X G L (wrX x X) D F)) : Calls PP F_flog_Log_Compact #[.pointer (some (blk lp)), g.v] w (Rt fun v w' => ∃ e, v = .int .i64 e ∧ LastI w0 x p lp h g X G k F e w') := by
  have H := (((H.own g).take (diskA p D)).take (PW q (wrX x X))).take (logA lp L)
  rw [← hd] at H
  refine Rt.mono (compact_stop hG hE hL hq hm (ownUps hgb hg) hg hl H) ?_
  rintro v w1 ⟨e, q', L', D', rfl, he, hd', hgo, y, _, H⟩
  unfold logW at H
  rw [hd', hd] at H
  exact ⟨e, rfl, q', L', D', y, he.imp id fun h => ⟨h.1, h.2.1⟩, hgo.mono fun Z hZ => .inr (.inl ⟨hk, hZ⟩), (((((H.take (diskA p D')).take (PW q' y)).take (logA lp L')).own g).own h)⟩
theorem last_none {k : Int} (h2 : k ≠ 2) (h3 : k ≠ 3) (hL : LogSt x L D.p X m) (H : Hp w0 w (Can p lp q h g X G L (wrX x X) D F)) : LastI w0 x p lp h g X G k F 0 w :=
  ⟨q, L, D, _, .inl rfl, (gone_still (x := x) hL.still (logX_z x hL.good hL.len) (torn_whole x.may (good_upo hL.good)) (by rw [List.length_map]; exact hL.len)).mono fun Z hZ => .inr (.inr ⟨h2, h3, hZ⟩), H⟩
theorem mod6 (k : Int) : modI k 6 ≤ 6 := by have := modI_at (k := k) (n := 6) (by omega); omega
end
end Go.Proofs.YtflcdgkckfcofaaGreatDoor
