import Derived.Test.YtbadkblofihjhaaPSpanClipsx2
import Derived.IntWalk
namespace Go.Proofs.Ytbadkblofihjhaa.Pure.SpanClips_
set_option linter.unusedVariables false
set_option linter.unusedSimpArgs false
open Go.RowKit Go.Proofs.Ytbadkblofihjhaa Go.Proofs.Ytbadkblofihjhaa.PSpanClips Go.Proofs.YtbadkblofihjhaaW.PrintWords Go.Proofs.YtbadkblofihjhaaW.PrintLast Go.Proofs.YtbadkblofihjhaaW.PrintMore

theorem head_ok : souterrainlaw07_head.f 8 = some true := by kernel_rfl
theorem up {α : Type} {f : Nat → Option α} (hm : ∀ k, LeO (f k) (f (k + 1))) {r : α} {k : Nat} (h : f k = some r) : ∀ j, k ≤ j → f j = some r := by
  intro j hj
  induction j with
  | zero => rw [show k = 0 by omega] at h; exact h
  | succ j ih =>
    by_cases e : k = j + 1
    · subst e; exact h
    · exact hm j r (ih (by omega))
theorem head_up (k : Nat) (hk : 8 ≤ k) : souterrainlaw07_head.f k = some true := up souterrainlaw07_head.mono head_ok k hk
theorem clip_good (a0 a1 n : Int) (h0 : 0 ≤ a0) (h1 : a0 ≤ 1073741824) (h2 : 0 ≤ a1) (h3 : a1 ≤ a0) (h4 : 0 ≤ n) : span_Clip.f a0 a1 n = some (a1, a1 + mn n (a0 - a1), true) := by
  unfold span_Clip.f
  rw [if_neg (by omega), if_neg (by omega), if_neg (by omega), if_neg (by omega), if_neg (by omega)]
  rw [IntWalk.wrap64_in (a0 - a1) ⟨by omega, by omega⟩]
  have : 0 ≤ mn n (a0 - a1) ∧ mn n (a0 - a1) ≤ a0 - a1 := by unfold mn; split <;> omega
  rw [IntWalk.wrap64_in _ ⟨by omega, by omega⟩]

theorem SpanClips : souterrainlaw07_SpanClips.Pure := by
  intro a0 a1 a2 w0 w1 w2
  refine ⟨8, ?_⟩
  unfold souterrainlaw07_SpanClips.f
  rw [head_ok]
  simp only [Option.bind_some]
  by_cases h : 0 ≤ a0 ∧ a0 ≤ 1073741824 ∧ 0 ≤ a1 ∧ a1 ≤ a0 ∧ 0 ≤ a2
  · obtain ⟨h0, h1, h2, h3, h4⟩ := h
    rw [clip_good a0 a1 a2 h0 h1 h2 h3 h4]
    have hm : 0 ≤ mn a2 (a0 - a1) ∧ mn a2 (a0 - a1) ≤ a0 - a1 ∧ mn a2 (a0 - a1) ≤ a2 ∧ (mn a2 (a0 - a1) = a2 ∨ mn a2 (a0 - a1) = a0 - a1) := by unfold mn; split <;> omega
    generalize mn a2 (a0 - a1) = m at hm
    obtain ⟨m0, m1, m2, m3⟩ := hm
    simp only [Option.bind_some, if_true]
    rw [show a1 + m - a1 = m by omega, IntWalk.wrap64_in m ⟨by omega, by omega⟩, clip_good a0 a1 m h0 h1 h2 h3 m0]
    have e : mn m (a0 - a1) = m := by unfold mn; split <;> omega
    rw [e]
    simp only [Option.bind_some, if_true]
    rw [if_pos (by omega), if_pos (by omega), if_pos (by omega)]
    by_cases h5 : m = a2
    · rw [if_pos h5]; simp
    · rw [if_neg h5, if_pos (by omega)]; simp
  · have e : span_Clip.f a0 a1 a2 = some (0, 0, false) := by
      unfold span_Clip.f
      repeat' split
      all_goals first | rfl | (exfalso; omega)
    rw [e]
    simp only [Option.bind_some, if_true, Bool.false_eq_true, if_false]
    repeat' split
    all_goals first | rfl | (simp; omega)

end Go.Proofs.Ytbadkblofihjhaa.Pure.SpanClips_
namespace Go.Proofs.Ytbadkblofihjhaa.Pure
theorem SpanClips : PSpanClips.souterrainlaw07_SpanClips.Pure := SpanClips_.SpanClips
end Go.Proofs.Ytbadkblofihjhaa.Pure
