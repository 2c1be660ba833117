/-
  Layer 5, plain: what is sorted and compacted depends on the members alone.
-/
import Derived.Test.YtgolccldopofbaaHeads
namespace Go.Proofs.Ytgolccldopofbaa
set_option linter.unusedVariables false
set_option linter.unusedSimpArgs false
open Go.RowKit Go.Proofs.YtgolccldopofbaaW.PrintWords

theorem compact_mem (zs : List Int) (x : Int) : x ∈ Lib.compact zs ↔ x ∈ zs := by
  unfold Lib.compact Lib.compactUpTo
  simp only [List.mem_map, List.mem_filter, List.mem_range]
  have hget : ∀ i, i < zs.length → zs.toArray[i]! = zs.getD i 0 := fun i hi => by
    rw [getElem!_pos zs.toArray i (by simpa using hi)]
    simp [List.getD_eq_getElem?_getD, List.getElem?_eq_getElem hi]
  constructor
  · rintro ⟨i, ⟨hi, _⟩, rfl⟩
    rw [hget i hi, List.getD_eq_getElem?_getD, List.getElem?_eq_getElem hi]
    simp
  · intro h
    obtain ⟨i, hi, rfl⟩ := List.getElem_of_mem h
    have main : ∀ j, j ≤ i → zs.getD j 0 = zs[i] → ∃ m, (m < zs.length ∧ Lib.keeps zs.toArray m = true) ∧ zs.toArray[m]! = zs[i] := by
      intro j
      induction j with
      | zero => exact fun _ e => ⟨0, ⟨by omega, by simp [Lib.keeps]⟩, by rw [hget 0 (by omega), e]⟩
      | succ j ih =>
        intro hj e
        by_cases hk : Lib.keeps zs.toArray (j + 1) = true
        · exact ⟨j + 1, ⟨by omega, hk⟩, by rw [hget _ (by omega), e]⟩
        · refine ih (by omega) ?_
          simp only [Lib.keeps, decide_eq_true_eq, not_or, Decidable.not_not] at hk
          rw [← e, ← hget j (by omega), ← hget (j + 1) (by omega)]
          exact hk.2.symm
    exact main i (Nat.le_refl _) (by rw [List.getD_eq_getElem?_getD, List.getElem?_eq_getElem hi]; rfl)
theorem compact_lt {zs : List Int} (hs : zs.Pairwise (· ≤ ·)) : (Lib.compact zs).Pairwise (· < ·) := by
  unfold Lib.compact Lib.compactUpTo
  have hget : ∀ i, (hi : i < zs.length) → zs.toArray[i]! = zs[i] := fun i hi => by
    rw [getElem!_pos zs.toArray i (by simpa using hi)]; rfl
  have hp := List.pairwise_iff_getElem.1 hs
  rw [List.pairwise_map, List.pairwise_filter]
  refine List.Pairwise.imp_of_mem ?_ List.pairwise_lt_range
  intro i j hi hj hij _ hk
  have hi' := List.mem_range.1 hi
  have hj' := List.mem_range.1 hj
  simp only [Lib.keeps, decide_eq_true_eq] at hk
  rw [hget i hi', hget j hj']
  rcases hk with hk | hk
  · omega
  · rw [hget j hj', hget (j - 1) (by omega)] at hk
    have h1 : zs[j - 1] ≤ zs[j] := hp (j - 1) j (by omega) hj' (by omega)
    have h2 : zs[i] ≤ zs[j - 1] := by
      by_cases e : i = j - 1
      · subst e; exact Int.le_refl _
      · exact hp i (j - 1) hi' (by omega) (by omega)
    omega
theorem lt_unique : ∀ (xs ys : List Int), xs.Pairwise (· < ·) → ys.Pairwise (· < ·) → (∀ z, z ∈ xs ↔ z ∈ ys) → xs = ys
  | [], [], _, _, _ => rfl
  | [], y :: ys, _, _, h => absurd ((h y).2 List.mem_cons_self) (by simp)
  | x :: xs, [], _, _, h => absurd ((h x).1 List.mem_cons_self) (by simp)
  | x :: xs, y :: ys, hx, hy, h => by
    obtain ⟨hx1, hx2⟩ := List.pairwise_cons.1 hx
    obtain ⟨hy1, hy2⟩ := List.pairwise_cons.1 hy
    have e : x = y := by
      rcases List.mem_cons.1 ((h x).1 List.mem_cons_self) with e | h1
      · exact e
      · rcases List.mem_cons.1 ((h y).2 List.mem_cons_self) with e | h2
        · exact e.symm
        · have := hy1 x h1; have := hx1 y h2; omega
    subst e
    congr 1
    refine lt_unique xs ys hx2 hy2 fun z => ⟨fun hz => ?_, fun hz => ?_⟩
    · rcases List.mem_cons.1 ((h z).1 (List.mem_cons_of_mem _ hz)) with e | h1
      · subst e; have := hx1 z hz; omega
      · exact h1
    · rcases List.mem_cons.1 ((h z).2 (List.mem_cons_of_mem _ hz)) with e | h1
      · subst e; have := hy1 z hz; omega
      · exact h1
theorem canon {xs ys : List Int} (h : ∀ z, z ∈ xs ↔ z ∈ ys) : Lib.compact (xs.mergeSort fun x y => decide (x ≤ y)) = Lib.compact (ys.mergeSort fun x y => decide (x ≤ y)) := by
  have hsort : ∀ l : List Int, (l.mergeSort fun x y => decide (x ≤ y)).Pairwise (· ≤ ·) := fun l => by
    have := List.pairwise_mergeSort (le := fun x y : Int => decide (x ≤ y)) (fun a b c h1 h2 => by simp at *; omega) (fun a b => by simp; omega) l
    exact this.imp (by simp)
  refine lt_unique _ _ (compact_lt (hsort _)) (compact_lt (hsort _)) fun z => ?_
  rw [compact_mem, compact_mem, List.mem_mergeSort, List.mem_mergeSort]
  exact h z
end Go.Proofs.Ytgolccldopofbaa
