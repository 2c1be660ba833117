/-
  Layer 5: between the walks' words and the printer's.
-/
import Derived.Test.YtgolccldopofbaaSegs
namespace Go.Proofs.Ytgolccldopofbaa
set_option linter.unusedVariables false
set_option linter.unusedSimpArgs false
open Go.RowKit Go.Proofs.YtgolccldopofbaaW.PrintWords

theorem reps_map {α β : Type} (R : α → List Value → Prop) (size : Nat) (g : β → α) (f : β → List Value) (h : ∀ x, R (g x) (f x)) (hl : ∀ x, (f x).length = size) (xs : List β) : Reps R size (xs.map g) (xs.flatMap f) := by
  have main : ∀ (ys : List β) (qs : List α) (cs : List Value), Reps R size qs cs → Reps R size (qs ++ ys.map g) (cs ++ ys.flatMap f) := by
    intro ys
    induction ys with
    | nil => intro qs cs h; simpa using h
    | cons y ys ih =>
      intro qs cs hh
      have := ih _ _ (hh.snoc (h y) (hl y))
      simpa using this
  simpa using main xs [] [] (Reps.none _ _)
theorem reps_nums (w : World) (base : Nat) (ok : Nat → Prop) (xs : List Int) : Reps (Kd.M (Kd.int .i64) w base ok) 1 xs (nums .i64 xs) := by
  have h := reps_map (Kd.M (Kd.int .i64) w base ok) 1 (fun x : Int => x) (fun x => [.int .i64 x]) (fun x => rfl) (fun _ => rfl) xs
  have e : ∀ xs : List Int, xs.flatMap (fun x => [Value.int .i64 x]) = nums .i64 xs := by
    intro xs
    induction xs with
    | nil => rfl
    | cons x xs ih => rw [List.flatMap_cons, ih]; rfl
  rw [e] at h
  simpa using h
end Go.Proofs.Ytgolccldopofbaa
