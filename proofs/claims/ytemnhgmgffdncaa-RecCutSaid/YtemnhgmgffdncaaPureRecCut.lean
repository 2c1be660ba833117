/-
  Layer 4: RecCut: any argument.
-/
import Derived.Test.YtemnhgmgffdncaaCut
namespace Go.Proofs.Ytemnhgmgffdncaa.PRecBack
set_option linter.unusedVariables false
open Go.RowKit Go.Proofs.YtemnhgmgffdncaaW.PrintWords
theorem walk_cut (z0 : T25) (c0 : Array Value) (a1 a2 : Int) (W : World) (h0 : k25.K W z0 c0.toList) (y0 : Fit0 z0) (w1 : (Lit.int .u16 a1).wf = true) (w2 : (Lit.int .u8 a2).wf = true) :
    Calls Try.prog 5 #[.agg c0, .int .u16 a1, .int .u8 a2] W fun e w' => e = .returned (.bool true) ∧ Below W.heap.size W w' := by
  obtain ⟨A5, c5, A6, c6, h⟩ := open25 h0
  rw [h.cells]
  simp [Lit.wf, IntKind.min, IntKind.max, IntKind.bits, IntKind.signed] at w1 w2
  exact cut_calls _ _ _ _ _ A5 c5 _ A6 c6 _ a1 a2 W ⟨h.r5, h.l5, h.r6, h.l6⟩ (fit_locs y0.2.2.2.2.2.1.1) (fit_u8s y0.2.2.2.2.2.2.2) ⟨by omega, by omega⟩ ⟨by omega, by omega⟩
end Go.Proofs.Ytemnhgmgffdncaa.PRecBack
