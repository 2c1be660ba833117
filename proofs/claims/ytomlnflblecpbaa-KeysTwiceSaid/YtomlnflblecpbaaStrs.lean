/-
  Layer 13: a row of strings of a call's own.
-/
import Derived.Test.YtomlnflblecpbaaDel
namespace Go.Proofs.Ytomlnflblecpbaa
set_option linter.unusedVariables false
set_option linter.unusedSimpArgs false
open Go.RowKit Go.Proofs.YtomlnflblecpbaaW.PrintWords Go.Proofs.YtomlnflblecpbaaW.PrintMore
def strV (xs : List ByteArray) : List Value := xs.map Value.string
theorem info9 : (Try.prog.info? 9).map (fun i => (i.zero, i.size, i.bytes)) = some (some (.string ⟨#[]⟩), 1, 16) := by kernel_rfl
/-- append of one string. -/
theorem str_run {W : World} (base : Nat) (v : Value) (xs : List ByteArray) (k : ByteArray) {q : Nat} (HO : W.ownsRow base 9 1 v xs.length (strV xs)) (hq : W.heap[q]? = some (.cells #[.string k] 9 (0, 0))) (hbase : base ≤ W.heap.size) (hl : xs.length + 1 ≤ 1000000) :
    ∃ v1 w1, (Builtin.append_ #[38, 38] 38 #[v, .slice (some ⟨q, 0, none⟩) 1 1]).run Try.prog W = .ok v1 w1 ∧ w1.ownsRow base 9 1 v1 (xs ++ [k]).length (strV (xs ++ [k])) ∧ W.grownBy w1 v.ownBlock ∧ (v1.ownBlock = v.ownBlock ∨ v1.ownBlock = some W.heap.size) := by
  obtain ⟨i0, hi, hz0, hz1, hz2⟩ := parts3 info9
  obtain ⟨v1, w1, hr, h2, h3, _, h5⟩ := run_append_own_at (P := Try.prog) W base 38 38 9 i0 (.string ⟨#[]⟩) 1 16 Try.underlying38 hi hz0 hz1 hz2 rfl (by omega) v xs.length (strV xs) HO ⟨q, 0, none⟩ 1 1 [.string k] rfl
    (fun j u hu => by
      have hadd : (⟨q, 0, none⟩ : Addr).add j = ⟨q, j, none⟩ := by unfold Addr.add; split <;> simp_all
      rw [hadd]
      exact (cell_of_row _ _ j _ 9 (0, 0) hq).trans (by rw [← Array.getElem?_toList]; exact hu))
    (fun u hu => by rw [List.mem_singleton.1 hu]; rfl) (by simp only [maxLen]; omega) (by omega) hbase
  refine ⟨v1, w1, hr, ?_, h3, h5⟩
  rw [show (xs ++ [k]).length = xs.length + 1 by simp, show strV (xs ++ [k]) = strV xs ++ [.string k] by simp [strV]]
  exact h2
end Go.Proofs.Ytomlnflblecpbaa
