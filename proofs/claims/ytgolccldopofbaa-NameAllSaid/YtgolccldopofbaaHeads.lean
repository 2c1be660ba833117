/-
  Layer 5, plain: the head's own names.
-/
import Derived.Test.YtgolccldopofbaaOrder
namespace Go.Proofs.Ytgolccldopofbaa
set_option linter.unusedVariables false
set_option linter.unusedSimpArgs false
open Go.RowKit Go.Proofs.YtgolccldopofbaaW.PrintWords
theorem ms : ([7, 2, 7] : List Int).mergeSort (fun x y => decide (x ≤ y)) = [2, 7, 7] := by
  simp [List.mergeSort, List.MergeSort.Internal.splitInTwo, List.merge, List.splitAt, List.splitAt.go]
theorem cp : Lib.compact ([2, 7, 7] : List Int) = [2, 7] := by decide +kernel
theorem lit7 : (⟨#[115, 48, 48, 48, 48, 48, 48, 48, 55]⟩ : ByteArray) = strOfNums (numberedL 115 7) := by kernel_rfl
theorem nb : numberF (rest1 ⟨#[115, 48, 48, 48, 48, 48, 48, 52, 97]⟩) = (0, false) := by kernel_rfl
theorem parse_bad {s : ByteArray} (h1 : s.data.toList ≠ []) (h2 : s.data.toList ≠ [109]) (h3 : s.data.toList ≠ [116]) (h : (numberF (rest1 s)).2 = false) : parseF s = (0, 0, false) := by
  unfold parseF
  rw [ByteArray.toList_eq, if_neg (by rw [List.isEmpty_iff]; exact h1), if_neg (by rw [beq_iff_eq]; exact h2), if_neg (by rw [beq_iff_eq]; exact h3), if_neg (by rw [h]; decide)]
theorem parse_m : parseF ⟨#[109]⟩ = (3, 0, true) := by
  unfold parseF
  rw [ByteArray.toList_eq]
  rfl
theorem p1 : parseF ⟨#[115, 48, 48, 48, 48, 48, 48, 52, 97]⟩ = (0, 0, false) := parse_bad (by decide) (by decide) (by decide) (by rw [nb])
theorem p2 : parseF ⟨#[120]⟩ = (0, 0, false) := parse_bad (by decide) (by decide) (by decide) (by kernel_rfl)
theorem lit2 : (⟨#[115, 48, 48, 48, 48, 48, 48, 48, 50]⟩ : ByteArray) = strOfNums (numberedL 115 2) := by kernel_rfl
theorem lit42 : (⟨#[104, 48, 48, 48, 48, 48, 48, 52, 50]⟩ : ByteArray) = strOfNums (numberedL 104 42) := by kernel_rfl
theorem seg7 : segOf ⟨#[115, 48, 48, 48, 48, 48, 48, 48, 55]⟩ = some 7 := by rw [segOf, lit7, parse_numbered 115 1 7 (.inl ⟨rfl, rfl⟩) (by omega) (by omega)]; rfl
theorem seg2 : segOf ⟨#[115, 48, 48, 48, 48, 48, 48, 48, 50]⟩ = some 2 := by rw [segOf, lit2, parse_numbered 115 1 2 (.inl ⟨rfl, rfl⟩) (by omega) (by omega)]; rfl
theorem segm : segOf ⟨#[109]⟩ = none := by rw [segOf, parse_m]; rfl
theorem segx : segOf ⟨#[120]⟩ = none := by rw [segOf, p2]; rfl
theorem segs_head : segsF [(⟨#[115, 48, 48, 48, 48, 48, 48, 48, 55]⟩ : ByteArray), (⟨#[109]⟩ : ByteArray), (⟨#[115, 48, 48, 48, 48, 48, 48, 48, 50]⟩ : ByteArray), (⟨#[115, 48, 48, 48, 48, 48, 48, 48, 55]⟩ : ByteArray), (⟨#[120]⟩ : ByteArray)] = [2, 7] := by
  unfold segsF
  simp only [List.filterMap_cons, List.filterMap_nil, seg7, seg2, segm, segx]
  rw [ms, cp]
theorem parse42 : parseF ⟨#[104, 48, 48, 48, 48, 48, 48, 52, 50]⟩ = (2, 42, true) := by rw [lit42, parse_numbered 104 2 42 (.inr ⟨rfl, rfl⟩) (by omega) (by omega)]
theorem str42 : (strOfNums (numberedL 115 42)).toList = [115, 48, 48, 48, 48, 48, 48, 52, 50] := by rw [str_toList]; kernel_rfl
end Go.Proofs.Ytgolccldopofbaa
