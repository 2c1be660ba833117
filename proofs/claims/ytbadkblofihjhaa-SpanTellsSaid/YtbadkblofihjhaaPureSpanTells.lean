import Derived.Test.YtbadkblofihjhaaPSpanTellsx3
import Derived.IntWalk
namespace Go.Proofs.Ytbadkblofihjhaa.Pure.SpanTells_
set_option linter.unusedVariables false
set_option linter.unusedSimpArgs false
open Go.RowKit Go.Proofs.Ytbadkblofihjhaa Go.Proofs.Ytbadkblofihjhaa.PSpanTells Go.Proofs.YtbadkblofihjhaaW.PrintWords Go.Proofs.YtbadkblofihjhaaW.PrintLast Go.Proofs.YtbadkblofihjhaaW.PrintMore

theorem head_ok : souterrainlaw07_head.f 8 = some true := by kernel_rfl
theorem up {α : Type} {f : Nat → Option α} (hm : ∀ k, LeO (f k) (f (k + 1))) {r : α} {k : Nat} (h : f k = some r) : ∀ j, k ≤ j → f j = some r := by
  intro j hj
  induction j with
  | zero => rw [show k = 0 by omega] at h; exact h
  | succ j ih =>
    by_cases e : k = j + 1
    · subst e; exact h
    · exact hm j r (ih (by omega))
theorem head_up (k : Nat) (hk : 8 ≤ k) : souterrainlaw07_head.f k = some true := up souterrainlaw07_head.mono head_ok k hk
theorem clip_good (a0 a1 n : Int) (h0 : 0 ≤ a0) (h1 : a0 ≤ 1073741824) (h2 : 0 ≤ a1) (h3 : a1 ≤ a0) (h4 : 0 ≤ n) : span_Clip.f a0 a1 n = some (a1, a1 + mn n (a0 - a1), true) := by
  unfold span_Clip.f
  rw [if_neg (by omega), if_neg (by omega), if_neg (by omega), if_neg (by omega), if_neg (by omega)]
  rw [IntWalk.wrap64_in (a0 - a1) ⟨by omega, by omega⟩]
  have : 0 ≤ mn n (a0 - a1) ∧ mn n (a0 - a1) ≤ a0 - a1 := by unfold mn; split <;> omega
  rw [IntWalk.wrap64_in _ ⟨by omega, by omega⟩]

theorem same_l0 (l : List S34) (hl : l.length < 1000000) : ∀ (m k i : Nat), i + m = l.length → m < k → souterrainref07_Same.l0 k l l (i : Int) = some true
  | m, 0, i, _, hk => by omega
  | 0, k + 1, i, hi, _ => by
    unfold souterrainref07_Same.l0
    rw [if_neg (by omega)]
  | m + 1, k + 1, i, hi, hk => by
    unfold souterrainref07_Same.l0
    rw [if_pos (by omega), if_pos (by omega), if_pos (by omega), if_neg (by simp)]
    rw [IntWalk.wrap64_in _ ⟨by omega, by omega⟩]
    exact same_l0 l hl m k (i + 1) (by omega) (by omega)
theorem same_self (l : List S34) (hl : l.length < 1000000) (k : Nat) (hk : l.length < k) : souterrainref07_Same.f k l l = some true := by
  unfold souterrainref07_Same.f
  rw [if_pos rfl]
  exact same_l0 l hl l.length k 0 (by omega) hk

theorem rd_nat (l : List Int) (i : Nat) : rd l (i : Int) = l.getD i 0 := rfl
theorem rr_l0 (l : List Int) (hl : l.length ≤ 2000) : ∀ (m k i : Nat), i + m = l.length → m < k → (l.take i).any wrongB = false → souterrainref07_right.l0 k l (i : Int) = some (rightB l)
  | m, 0, i, _, hk, _ => by omega
  | 0, k + 1, i, hi, _, hw => by
    unfold souterrainref07_right.l0
    rw [if_neg (by omega)]
    rw [List.take_of_length_le (by omega)] at hw
    simp [rightB, hw]; omega
  | m + 1, k + 1, i, hi, hk, hw => by
    unfold souterrainref07_right.l0
    have hs := any_take_succ l i (by omega)
    rw [if_pos (by omega), if_pos (by omega), rd_nat]
    have hg : wrongB (l.getD i 0) = true → rightB l = false := fun h => by
      have : l.any wrongB = true := List.any_eq_true.2 ⟨l.getD i 0, by
        rw [List.getD_eq_getElem?_getD, List.getElem?_eq_getElem (by omega)]; simp, h⟩
      simp [rightB, this]
    by_cases h1 : l.getD i 0 < 1
    · rw [if_pos h1, hg (by simp only [wrongB, Bool.or_eq_true, decide_eq_true_eq]; omega)]
    · rw [if_neg h1]
      by_cases h2 : l.getD i 0 > 4096
      · rw [if_pos h2, hg (by simp only [wrongB, Bool.or_eq_true, decide_eq_true_eq]; omega)]
      · rw [if_neg h2, IntWalk.wrap64_in _ ⟨by omega, by omega⟩]
        refine rr_l0 l hl m k (i + 1) (by omega) (by omega) ?_
        rw [hs, hw]
        simp only [wrongB, Bool.false_or, Bool.or_eq_false_iff, decide_eq_false_iff_not]
        omega
theorem rr (l : List Int) (hl : l.length ≤ 2000) (k : Nat) (hk : l.length < k) : souterrainref07_right.f k l = some (rightB l) :=
  rr_l0 l hl l.length k 0 (by omega) hk (by simp)
theorem rs_l0 (l : List Int) (hr : rightB l = true) : ∀ (m k i : Nat), i + m = l.length → l.length + m < k → souterrainref07_Size.l0 k l (at_ l i) (i : Int) = some l.sum
  | m, 0, i, _, hk => by omega
  | 0, k + 1, i, hi, _ => by
    unfold souterrainref07_Size.l0
    rw [if_neg (by omega), ← at_all l, show i = l.length by omega]
  | m + 1, k + 1, i, hi, hk => by
    have hl := (right_all hr).1
    unfold souterrainref07_Size.l0
    rw [if_pos (by omega), rr l (by omega) k (by omega), hr]
    simp only [Option.bind_some, if_true]
    have h1 := right_getD hr i (by omega)
    have h2 := at_bound hr i (by omega)
    rw [if_pos (by omega), rd_nat, ← at_succ l i (by omega)]
    have h3 := at_bound hr (i + 1) (by omega)
    rw [IntWalk.wrap64_in _ ⟨by omega, by omega⟩, IntWalk.wrap64_in _ ⟨by omega, by omega⟩]
    exact rs_l0 l hr m k (i + 1) (by omega) (by omega)
theorem rs (l : List Int) (hl : l.length ≤ 2000) (k : Nat) (hk : 5000 < k) : souterrainref07_Size.f k l = some (sizeOf l) := by
  unfold souterrainref07_Size.f sizeOf
  cases hr : rightB l with
  | true => exact rs_l0 l hr l.length k 0 (by omega) (by have := (right_all hr).1; omega)
  | false =>
    obtain ⟨k, rfl⟩ : ∃ j, k = j + 1 := ⟨k - 1, by omega⟩
    unfold souterrainref07_Size.l0
    by_cases h : (0 : Int) < (l.length : Int)
    · rw [if_pos h, rr l hl k (by omega), hr]; rfl
    · rw [if_neg h]; rfl

def enc (x : Int × Int × Int) : S34 := ⟨x.1, x.2.1, x.2.2⟩
theorem part_ref (l : List Int) (f t : Int) (i : Nat) : (part l f t i).map enc =
    if mx f (at_ l i) < mn t (at_ l i + l.getD i 0) then [(⟨(i : Int), mx f (at_ l i) - at_ l i, mn t (at_ l i + l.getD i 0) - at_ l i⟩ : S34)] else [] := by
  unfold part
  dsimp only
  generalize at_ l i = a
  generalize l.getD i 0 = z
  have e1 : (if f - a < 0 then 0 else f - a) = mx f a - a := by unfold mx; split <;> split <;> omega
  have e2 : (if z < t - a then z else t - a) = mn t (a + z) - a := by unfold mn; split <;> split <;> omega
  rw [e1, e2]
  by_cases h : mx f a < mn t (a + z)
  · rw [if_pos h, if_pos (by omega)]; rfl
  · rw [if_neg h, if_neg (by omega)]; rfl
theorem rp_l0 (l : List Int) (hr : rightB l = true) (f t : Int) (f0 : 0 ≤ f) (f1 : f ≤ 1073741824) (t0 : 0 ≤ t) (t1 : t ≤ 1073741824) : ∀ (m k i : Nat), i + m = l.length → m < k →
    souterrainref07_Parts.l0 k l f t ((partsTo l f t i).map enc) (at_ l i) (i : Int) = some ((partsTo l f t l.length).map enc)
  | m, 0, i, _, hk => by omega
  | 0, k + 1, i, hi, _ => by
    unfold souterrainref07_Parts.l0
    rw [if_neg (by omega), show i = l.length by omega]
  | m + 1, k + 1, i, hi, hk => by
    have hl := (right_all hr).1
    unfold souterrainref07_Parts.l0
    have h1 := right_getD hr i (by omega)
    have h2 := at_bound hr i (by omega)
    have hs := at_succ l i (by omega)
    have hlen : (partsTo l f t i).length ≤ i := by
      have : ∀ j, (partsTo l f t j).length ≤ j := by
        intro j
        induction j with
        | zero => simp [partsTo]
        | succ j ih =>
          rw [partsTo_succ, List.length_append]
          have := part_len l f t j
          omega
      exact this i
    have hstep := rp_l0 l hr f t f0 f1 t0 t1 m k (i + 1) (by omega) (by omega)
    have hpr := part_ref l f t i
    rw [partsTo_succ, List.map_append, hpr, hs] at hstep
    rw [if_pos (by omega), if_pos (by omega), rd_nat]
    rw [IntWalk.wrap64_in (at_ l i + l.getD i 0) ⟨by omega, by omega⟩, IntWalk.wrap64_in ((i : Int) + 1) ⟨by omega, by omega⟩]
    have b1 : mx f (at_ l i) - at_ l i ≤ 1073741824 ∧ 0 ≤ mx f (at_ l i) - at_ l i := by unfold mx; split <;> omega
    have b2 : mn t (at_ l i + l.getD i 0) - at_ l i ≤ 1073741824 ∧ -9000000 ≤ mn t (at_ l i + l.getD i 0) - at_ l i := by unfold mn; split <;> omega
    rw [IntWalk.wrap64_in (mx f (at_ l i) - at_ l i) ⟨by omega, by omega⟩, IntWalk.wrap64_in (mn t (at_ l i + l.getD i 0) - at_ l i) ⟨by omega, by omega⟩]
    by_cases h : mx f (at_ l i) < mn t (at_ l i + l.getD i 0)
    · rw [if_pos h, if_pos (by rw [List.length_map]; omega)]
      rw [if_pos h] at hstep
      exact hstep
    · rw [if_neg h]
      rw [if_neg h, List.append_nil] at hstep
      exact hstep
theorem rclip (a0 a1 a2 : Int) : souterrainref07_Clip.f a0 a1 a2 = span_Clip.f a0 a1 a2 := rfl
theorem clip_f (a0 a1 a2 : Int) : span_Clip.f a0 a1 a2 = some (if clipOk a0 a1 a2 then (a1, clipTo a0 a1 a2, true) else (0, 0, false)) := by
  by_cases h : clipOk a0 a1 a2 = true
  · rw [if_pos h]
    simp only [clipOk, Bool.and_eq_true, decide_eq_true_eq] at h
    rw [clip_good a0 a1 a2 (by omega) (by omega) (by omega) (by omega) (by omega)]
    have : a1 + mn a2 (a0 - a1) = clipTo a0 a1 a2 := by unfold mn clipTo; split <;> omega
    rw [this]
  · rw [if_neg h]
    simp only [clipOk, Bool.and_eq_true, decide_eq_true_eq] at h
    unfold span_Clip.f
    repeat' split
    all_goals first | rfl | (exfalso; omega)
theorem rp (l : List Int) (hl : l.length ≤ 2000) (a1 a2 : Int) (k : Nat) (hk : 9000 < k) : souterrainref07_Parts.f k l a1 a2 = some ((partsOf l a1 a2).map enc) := by
  unfold souterrainref07_Parts.f
  rw [rs l hl k (by omega), Option.bind_some, rclip, clip_f, Option.bind_some]
  obtain ⟨k, rfl⟩ : ∃ j, k = j + 1 := ⟨k - 1, by omega⟩
  unfold partsOf
  cases hc : clipOk (sizeOf l) a1 a2 with
  | false =>
    rw [if_neg (by simp)]
    simp only [Bool.false_eq_true, if_false, Bool.false_and]
    unfold souterrainref07_Parts.j0
    rfl
  | true =>
    rw [if_pos rfl]
    simp only [if_true]
    rw [rr l hl (k + 1) (by omega), Option.bind_some]
    cases hr : rightB l with
    | false =>
      unfold souterrainref07_Parts.j0
      rfl
    | true =>
      unfold souterrainref07_Parts.j0
      obtain ⟨c0, c1, c2, c3⟩ := clip_facts hc
      have := (right_all hr).1
      exact rp_l0 l hr a1 (clipTo (sizeOf l) a1 a2) c0 c1 (by omega) c3 l.length k 0 (by omega) (by omega)
theorem SpanTells : souterrainlaw07_SpanTells.Pure := by
  intro l a1 a2 a3 hm hb hw w1 w2 w3
  refine ⟨10000, ?_⟩
  unfold souterrainlaw07_SpanTells.f
  rw [head_up _ (by omega), Option.bind_some]
  by_cases hl : (l.length : Int) > 2000
  · rw [if_pos hl]
  · rw [if_neg hl, rclip, clip_f, Option.bind_some, Option.bind_some, if_pos rfl, rp l (by omega) a1 a2 _ (by omega)]
    unfold span_Parts.f span_Size.f
    simp only [Option.bind_some]
    have hlen : (partsOf l a1 a2).length ≤ 600 := by
      have : ∀ f t j, (partsTo l f t j).length ≤ j := by
        intro f t j
        induction j with
        | zero => simp [partsTo]
        | succ j ih =>
          rw [partsTo_succ, List.length_append]
          have := part_len l f t j
          omega
      unfold partsOf
      split
      · rename_i h
        simp only [Bool.and_eq_true] at h
        have h1 := (right_all h.2).1
        have := this a1 (clipTo (sizeOf l) a1 a2) l.length
        omega
      · simp
    have hs := same_self ((partsOf l a1 a2).map enc) (by rw [List.length_map]; omega) 10000 (by rw [List.length_map]; omega)
    have he : ((partsOf l a1 a2).map fun x => (⟨x.1, x.2.1, x.2.2⟩ : S34)) = (partsOf l a1 a2).map enc := rfl
    rw [he, hs, Option.bind_some, if_pos rfl, rs l (by omega) _ (by omega), Option.bind_some]
    simp

end Go.Proofs.Ytbadkblofihjhaa.Pure.SpanTells_
namespace Go.Proofs.Ytbadkblofihjhaa.Pure
theorem SpanTells : PSpanTells.souterrainlaw07_SpanTells.Pure := SpanTells_.SpanTells
end Go.Proofs.Ytbadkblofihjhaa.Pure
