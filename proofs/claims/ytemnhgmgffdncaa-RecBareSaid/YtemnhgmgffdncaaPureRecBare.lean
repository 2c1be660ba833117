/-
  Layer 4: RecBare: any argument.
-/
import Derived.Test.YtemnhgmgffdncaaBare
namespace Go.Proofs.Ytemnhgmgffdncaa.PRecBack
set_option linter.unusedVariables false
open Go.RowKit Go.Proofs.YtemnhgmgffdncaaW.PrintWords
theorem walk_bare (z0 : T25) (c0 : Array Value) (a1 : Int) (W : World) (h0 : k25.K W z0 c0.toList) :
    Calls Try.prog 7 #[.agg c0, .int .i64 a1] W fun e w' => e = .returned (.bool true) ∧ Below W.heap.size W w' := by
  obtain ⟨A5, c5, A6, c6, h⟩ := open25 h0
  rw [h.cells]
  exact bare_calls _ _ _ _ _ A5 c5 _ A6 c6 _ a1 W ⟨h.r5, h.l5, h.r6, h.l6⟩
end Go.Proofs.Ytemnhgmgffdncaa.PRecBack
