/-
  Layer 7, plain: parts of pieces, one behind the other, are the range of all.
-/
import Derived.Test.YtbadkblofihjhaaGiven
namespace Go.Proofs.Ytbadkblofihjhaa
set_option linter.unusedVariables false
set_option linter.unusedSimpArgs false

def szs (P : List (List Int)) : List Int := P.map fun b => (b.length : Int)
def slOf (P : List (List Int)) (x : Int × Int × Int) : List Int := ((P.getD x.1.toNat []).take x.2.2.toNat).drop x.2.1.toNat
def gotF (P : List (List Int)) (l : List (Int × Int × Int)) : List Int := l.flatMap (slOf P)
theorem szs_getD (P : List (List Int)) (k : Nat) (h : k < P.length) : (szs P).getD k 0 = ((P.getD k []).length : Int) := by
  simp [szs, List.getD_eq_getElem?_getD, List.getElem?_eq_getElem h]
theorem at_szs (P : List (List Int)) : ∀ m, at_ (szs P) m = (((P.take m).flatten).length : Int) := by
  intro m
  unfold at_ szs
  induction m generalizing P with
  | zero => simp
  | succ m ih =>
    cases P with
    | nil => simp
    | cons b P =>
      have := ih P
      simp only [List.map_cons, List.take_succ_cons, List.sum_cons, List.flatten_cons, List.length_append] at this ⊢
      rw [this]; omega
theorem sum_szs (P : List (List Int)) : (szs P).sum = ((P.flatten).length : Int) := by
  have := at_szs P P.length
  rw [List.take_length] at this
  rw [← this]
  unfold at_
  rw [show P.length = (szs P).length by simp [szs], List.take_length]
theorem got_parts (P : List (List Int)) (f t : Int) (hf : 0 ≤ f) (hft : f ≤ t) : ∀ m, m ≤ P.length → gotF P (partsTo (szs P) f t m) = (((P.take m).flatten).take t.toNat).drop f.toNat
  | 0, _ => by simp [gotF, partsTo]
  | m + 1, hm => by
    have ih := got_parts P f t hf hft m (by omega)
    rw [partsTo_succ, gotF, List.flatMap_append]
    have e : P.take (m + 1) = P.take m ++ [P.getD m []] := by
      rw [List.take_succ_eq_append_getElem (by omega), List.getD_eq_getElem?_getD, List.getElem?_eq_getElem (by omega)]; rfl
    have ha := at_szs P m
    have hz := szs_getD P m (by omega)
    have ih' : (partsTo (szs P) f t m).flatMap (slOf P) = (((P.take m).flatten).take t.toNat).drop f.toNat := ih
    rw [ih', e, List.flatten_append]
    have hs : ∀ a b : Int, slOf P ((m : Int), a, b) = ((P.getD m []).take b.toNat).drop a.toNat := fun a b => by unfold slOf; rw [Int.toNat_natCast]
    generalize (P.take m).flatten = A at ha
    unfold part
    rw [ha, hz]
    generalize P.getD m [] = B at hs
    simp only [List.flatten_cons, List.flatten_nil, List.append_nil]
    rw [List.take_append, List.drop_append]
    congr 1
    rw [List.length_take]
    have hF0 : 0 ≤ (if f - (A.length : Int) < 0 then 0 else f - (A.length : Int)) := by split <;> omega
    have hF1 : (if f - (A.length : Int) < 0 then 0 else f - (A.length : Int)).toNat = f.toNat - A.length := by split <;> omega
    have hT1 : t ≤ (A.length : Int) → (if (B.length : Int) < t - (A.length : Int) then (B.length : Int) else t - (A.length : Int)) ≤ 0 := by intro h; split <;> omega
    have hT2 : (A.length : Int) < t → B.take (if (B.length : Int) < t - (A.length : Int) then (B.length : Int) else t - (A.length : Int)).toNat = B.take (t.toNat - A.length) := by
      intro h
      split
      · rw [Int.toNat_natCast, List.take_length, List.take_of_length_le (by omega)]
      · congr 1; omega
    have hT3 : (A.length : Int) < t → ¬ ((if f - (A.length : Int) < 0 then 0 else f - (A.length : Int)) < (if (B.length : Int) < t - (A.length : Int) then (B.length : Int) else t - (A.length : Int))) → min (t.toNat - A.length) B.length ≤ f.toNat - A.length := by
      intro h c
      split at c <;> split at c <;> omega
    generalize (if f - (A.length : Int) < 0 then 0 else f - (A.length : Int)) = F at hF0 hF1 hT3
    generalize (if (B.length : Int) < t - (A.length : Int) then (B.length : Int) else t - (A.length : Int)) = T at hT1 hT2 hT3
    by_cases hlt : t ≤ (A.length : Int)
    · have e1 : B.take (t.toNat - A.length) = [] := by rw [show t.toNat - A.length = 0 by omega, List.take_zero]
      have := hT1 hlt
      rw [e1, List.drop_nil, if_neg (by omega)]
      rfl
    · rw [Nat.min_eq_right (by omega)]
      by_cases c : F < T
      · rw [if_pos c]
        simp only [List.flatMap_cons, List.flatMap_nil, List.append_nil, hs]
        rw [hF1, hT2 (by omega)]
      · rw [if_neg c]
        simp only [List.flatMap_nil]
        symm
        rw [List.drop_eq_nil_iff, List.length_take]
        exact hT3 (by omega) c
theorem part_or (zs : List Int) (f t : Int) (k : Nat) : part zs f t k = [] ∨ ∃ F T, part zs f t k = [((k : Int), F, T)] ∧ 0 ≤ F ∧ F < T ∧ T ≤ zs.getD k 0 := by
  unfold part
  dsimp only
  have hF : 0 ≤ (if f - at_ zs k < 0 then 0 else f - at_ zs k) := by split <;> omega
  have hT : (if zs.getD k 0 < t - at_ zs k then zs.getD k 0 else t - at_ zs k) ≤ zs.getD k 0 := by split <;> omega
  generalize (if f - at_ zs k < 0 then 0 else f - at_ zs k) = F at hF
  generalize (if zs.getD k 0 < t - at_ zs k then zs.getD k 0 else t - at_ zs k) = T at hT
  by_cases c : F < T
  · rw [if_pos c]; exact .inr ⟨F, T, rfl, hF, c, hT⟩
  · rw [if_neg c]; exact .inl rfl
theorem parts_mem (zs : List Int) (f t : Int) (m : Nat) (x : Int × Int × Int) (h : x ∈ partsTo zs f t m) : ∃ k : Nat, k < m ∧ x.1 = (k : Int) ∧ 0 ≤ x.2.1 ∧ x.2.1 < x.2.2 ∧ x.2.2 ≤ zs.getD k 0 := by
  unfold partsTo at h
  obtain ⟨k, hk, hx⟩ := List.mem_flatMap.1 h
  rcases part_or zs f t k with e | ⟨F, T, e, h1, h2, h3⟩
  · rw [e] at hx; cases hx
  · rw [e, List.mem_singleton] at hx
    subst hx
    exact ⟨k, List.mem_range.1 hk, rfl, h1, h2, h3⟩
theorem parts_rise (zs : List Int) (f t : Int) : ∀ m, (partsTo zs f t m).Pairwise fun a b => a.1 < b.1
  | 0 => by simp [partsTo]
  | m + 1 => by
    rw [partsTo_succ, List.pairwise_append]
    rcases part_or zs f t m with e | ⟨F, T, e, h1, h2, h3⟩
    · rw [e]; exact ⟨parts_rise zs f t m, List.Pairwise.nil, fun a _ b hb => by cases hb⟩
    · rw [e]
      refine ⟨parts_rise zs f t m, List.pairwise_singleton _ _, fun a ha b hb => ?_⟩
      obtain ⟨k, hk, e, _⟩ := parts_mem zs f t m a ha
      rw [List.mem_singleton] at hb
      subst hb
      rw [e]; dsimp only; omega
end Go.Proofs.Ytbadkblofihjhaa
