/-
  A row under which the return leaves goroutines behind follows from the same row with none left behind: what ends alone leaves at most what leaves.
-/
import Derived.ProofKit
import Derived.Leaving
import Derived.Handed
namespace Go
theorem ret_leave {a : Assume} {stops : Option Stop.Interp} {C : Checked} {os : Os} {f : FuncId} {r : Reach} {okInput : Program → World → Reach → Nat → FuncId → Input → Prop}
    {Pre : World → Array Value → Prop} {Post : World → Array Value → Value → World → Prop} {always : Machine → Prop}
    (h : ReturnsInOpen a stops C os f r okInput Pre Post (aloneAtReturn C.prog) always) : ReturnsInOpen a stops C os f r okInput Pre Post (leavingAtReturn C.prog) always :=
  ReturnsInOpen.mono (fun _ _ _ x => ⟨x.2.1, onlyLeaving_of_quiet x.1, x.2.2⟩) (fun _ x => x) h
theorem leave {p : Pinned} {s : OpenSpec} {c : OpenClaim} (h : c.holds p s) (hl : c.leaving = false) (hs : c.start = .entering) (ht : c.stops = []) (hw : ({ c with leaving := true } : OpenClaim).wf s = true) :
    ({ c with leaving := true } : OpenClaim).holds p s := by
  obtain ⟨_, a1, a2, a3, a4, a5, a6, a7, f, fn, b1, b2, b3, b4, b5, b6, b7, b8, b9, b10, b11, b12, b13, b14, b15, b16, b17, b18, b19, b20, b21, L, hL, hall⟩ := h
  refine ⟨hw, a1, a2, a3, a4, a5, a6, a7, f, fn, b1, b2, b3, b4, b5, b6, b7, b8, b9, b10, b11, b12, b13, b14, b15, b16, b17, b18, b19, b20, b21, L, hL, fun os st hq H enc inj => ?_⟩
  have F := hall os st hq H enc inj
  unfold OpenClaim.form at F ⊢
  rw [hs, ht] at F
  show match ({ c with leaving := true } : OpenClaim).start, ({ c with leaving := true } : OpenClaim).stops with | _, _ => _
  rw [show ({ c with leaving := true } : OpenClaim).start = .entering from hs, show ({ c with leaving := true } : OpenClaim).stops = [] from ht]
  intro G
  have e2 : c.atReturn p.checked.prog = aloneAtReturn p.checked.prog := by unfold OpenClaim.atReturn; rw [hl]
  have F2 := F G
  rw [e2] at F2
  exact ret_leave F2
end Go
