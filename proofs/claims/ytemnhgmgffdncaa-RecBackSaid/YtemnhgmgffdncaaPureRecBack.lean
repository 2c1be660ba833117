/-
  Layer 4: RecBack: any argument.
-/
import Derived.Test.YtemnhgmgffdncaaBack
namespace Go.Proofs.Ytemnhgmgffdncaa.PRecBack
set_option linter.unusedVariables false
open Go.RowKit Go.Proofs.YtemnhgmgffdncaaW.PrintWords
theorem walk_back (z0 : T25) (c0 : Array Value) (a1 : Option Addr) (cap1 : Nat) (z1 : List Int) (W : World) (h0 : k25.K W z0 c0.toList) (w1 : Kd.C (Kd.int .u8) W a1 z1.length z1) (l1 : z1.length ≤ cap1) (y0 : Fit0 z0) (y1 : z1.length * Try.prog.bytesOf 5 ≤ reachBytes ∧ ∀ x ∈ z1, (Lit.int .u8 x).wf = true) :
    Calls Try.prog 4 #[.agg c0, .slice a1 z1.length cap1] W fun e w' => e = .returned (.bool true) ∧ Below W.heap.size W w' := by
  obtain ⟨A5, c5, A6, c6, h⟩ := open25 h0
  rw [h.cells]
  exact back_calls _ _ _ _ _ A5 c5 _ A6 c6 _ a1 cap1 z1 W ⟨h.r5, h.l5, h.r6, h.l6⟩ w1 l1 (fit_locs y0.2.2.2.2.2.1.1) (fit_u8s y0.2.2.2.2.2.2.2) (fit_u8s y1.2)
end Go.Proofs.Ytemnhgmgffdncaa.PRecBack
