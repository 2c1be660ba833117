/-
  Layer 7: between the walks' words and the printer's.
-/
import Derived.Test.YtbadkblofihjhaaParts
namespace Go.Proofs.Ytbadkblofihjhaa
set_option linter.unusedVariables false
set_option linter.unusedSimpArgs false
open Go.RowKit Go.Shelf Go.Proofs.YtbadkblofihjhaaW.PrintWords

theorem readsInt_of_C {w : World} {A : Option Addr} {n : Nat} {xs : List Int} (h : Kd.C (Kd.int .i64) w A n xs) : ReadsInt w .i64 A n xs := by
  refine ⟨h.1, h.2.1, fun hn => ?_⟩
  obtain ⟨ad, e, hc⟩ := h.2.2 hn
  refine ⟨ad, e, fun j hj => ?_⟩
  have hl : j < xs.length := by rw [h.1]; exact hj
  obtain ⟨c, _, hK, hu⟩ := hc j xs[j] (List.getElem?_eq_getElem hl)
  have hK' : c = [.int .i64 xs[j]] := hK
  subst hK'
  have := hu 0 _ rfl
  have e2 : (Kd.int .i64).sz = 1 := rfl
  rw [e2, Nat.mul_one, Nat.add_zero] at this
  rw [this, List.getD_eq_getElem?_getD, List.getElem?_eq_getElem hl]
  rfl
theorem reps_map {α β : Type} (R : α → List Value → Prop) (size : Nat) (g : β → α) (f : β → List Value) (h : ∀ x, R (g x) (f x)) (hl : ∀ x, (f x).length = size) (xs : List β) : Reps R size (xs.map g) (xs.flatMap f) := by
  have main : ∀ (ys : List β) (qs : List α) (cs : List Value), Reps R size qs cs → Reps R size (qs ++ ys.map g) (cs ++ ys.flatMap f) := by
    intro ys
    induction ys with
    | nil => intro qs cs h; simpa using h
    | cons y ys ih =>
      intro qs cs hh
      have := ih _ _ (hh.snoc (h y) (hl y))
      simpa using this
  simpa using main xs [] [] (Reps.none _ _)
end Go.Proofs.Ytbadkblofihjhaa
