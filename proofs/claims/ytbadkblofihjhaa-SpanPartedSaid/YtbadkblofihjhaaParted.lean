/-
  Layer 7, plain: a range that is parted.
-/
import Derived.Test.YtbadkblofihjhaaParts
namespace Go.Proofs.Ytbadkblofihjhaa
set_option linter.unusedVariables false
set_option linter.unusedSimpArgs false
open Go.RowKit Go.Shelf Go.Proofs.YtbadkblofihjhaaW.PrintWords

theorem part_form (l : List Int) (f t : Int) (i : Nat) : part l f t i = part1 i (l.getD i 0) (at_ l i) f t := rfl
theorem part1_before {k : Nat} {z a f c t : Int} (hz : a + z ≤ c) (hf : f ≤ c) (ht : c ≤ t) : part1 k z a f t = part1 k z a f c ∧ part1 k z a c t = [] := by
  have e : minI (t - a) z = minI (c - a) z := by unfold minI; split <;> split <;> omega
  refine ⟨by unfold part1; rw [e], ?_⟩
  unfold part1
  rw [if_neg]
  unfold maxI minI
  split <;> split <;> omega
theorem part1_behind {k : Nat} {z a f c t : Int} (hz : c ≤ a) (hf : f ≤ c) (ht : c ≤ t) : part1 k z a f c = [] ∧ part1 k z a c t = part1 k z a f t := by
  have e : maxI (c - a) 0 = maxI (f - a) 0 := by unfold maxI; split <;> split <;> omega
  refine ⟨?_, by unfold part1; rw [e]⟩
  unfold part1
  rw [if_neg]
  unfold maxI minI
  split <;> split <;> omega
theorem part1_at {k : Nat} {z a f c t : Int} (h0 : a ≤ c) (h1 : c < a + z) (hf : f ≤ c) (ht : c ≤ t) :
    (part1 k z a f c = [] ∧ part1 k z a c t = part1 k z a f t) ∨ (part1 k z a c t = [] ∧ part1 k z a f c = part1 k z a f t) ∨
    ∃ x y w, part1 k z a f c = [((k : Int), x, y)] ∧ part1 k z a c t = [((k : Int), y, w)] ∧ part1 k z a f t = [((k : Int), x, w)] := by
  by_cases h2 : maxI (f - a) 0 < c - a
  · by_cases h3 : c < t
    · refine .inr (.inr ⟨maxI (f - a) 0, c - a, minI (t - a) z, ?_, ?_, ?_⟩)
      · have e : minI (c - a) z = c - a := by unfold minI; split <;> omega
        unfold part1
        rw [e, if_pos h2]
      · have e : maxI (c - a) 0 = c - a := by unfold maxI; split <;> omega
        unfold part1
        rw [e, if_pos (by unfold minI; split <;> omega)]
      · unfold part1
        rw [if_pos (by have : c - a < minI (t - a) z := by { unfold minI; split <;> omega }; omega)]
    · obtain rfl : c = t := by omega
      refine .inr (.inl ⟨?_, rfl⟩)
      unfold part1
      rw [if_neg]
      unfold maxI minI
      split <;> split <;> omega
  · have e : maxI (f - a) 0 = maxI (c - a) 0 := by
      unfold maxI at *
      split <;> split <;> omega
    refine .inl ⟨?_, by unfold part1; rw [e]⟩
    unfold part1
    rw [if_neg]
    have : minI (c - a) z ≤ c - a := by unfold minI; split <;> omega
    omega
theorem part1_fst {k : Nat} {z a f t : Int} {u : Int × Int × Int} (h : u ∈ part1 k z a f t) : u.1 = k := by
  unfold part1 at h
  split at h
  · simp at h; rw [h]
  · simp at h
def restOf (l : List Int) (f t : Int) (j m : Nat) : List (Int × Int × Int) := (List.range m).flatMap fun i => part l f t (j + 1 + i)
theorem partsTo_split (l : List Int) (f t : Int) (j n : Nat) (h : j < n) : partsTo l f t n = partsTo l f t j ++ part l f t j ++ restOf l f t j (n - j - 1) := by
  have e : n = j + 1 + (n - j - 1) := by omega
  have e2 : List.range n = List.range (j + 1) ++ (List.range (n - j - 1)).map (j + 1 + ·) := by
    conv => lhs; rw [e]
    exact List.range_add
  rw [partsTo, e2, List.flatMap_append, ← partsTo, partsTo_succ, List.flatMap_map]
  rfl
theorem partsTo_fst {l : List Int} {f t : Int} {n : Nat} {u : Int × Int × Int} (h : u ∈ partsTo l f t n) : u.1 < n := by
  unfold partsTo at h
  obtain ⟨i, hi, hu⟩ := List.mem_flatMap.1 h
  have := part1_fst (part_form l f t i ▸ hu)
  have := List.mem_range.1 hi
  omega
theorem restOf_fst {l : List Int} {f t : Int} {j m : Nat} {u : Int × Int × Int} (h : u ∈ restOf l f t j m) : (j : Int) < u.1 := by
  unfold restOf at h
  obtain ⟨i, hi, hu⟩ := List.mem_flatMap.1 h
  have := part1_fst (part_form l f t _ ▸ hu)
  omega
theorem partsTo_before {l : List Int} {f c t : Int} (hf : f ≤ c) (ht : c ≤ t) : ∀ n, (∀ i, i < n → at_ l i + l.getD i 0 ≤ c) → partsTo l f t n = partsTo l f c n ∧ partsTo l c t n = []
  | 0, _ => ⟨rfl, rfl⟩
  | n + 1, h => by
    obtain ⟨h1, h2⟩ := partsTo_before hf ht n (fun i hi => h i (by omega))
    obtain ⟨h3, h4⟩ := part1_before (k := n) (h n (by omega)) hf ht
    rw [partsTo_succ, partsTo_succ, partsTo_succ, h1, h2, part_form, part_form, part_form, h3, h4]
    exact ⟨rfl, rfl⟩
theorem restOf_behind {l : List Int} {f c t : Int} (hf : f ≤ c) (ht : c ≤ t) (j m : Nat) (h : ∀ i, i < m → c ≤ at_ l (j + 1 + i)) : restOf l f c j m = [] ∧ restOf l c t j m = restOf l f t j m := by
  constructor
  · unfold restOf
    rw [List.flatMap_eq_nil_iff]
    intro i hi
    rw [part_form]
    exact (part1_behind (h i (List.mem_range.1 hi)) hf ht).1
  · unfold restOf
    rw [List.flatMap_def, List.flatMap_def]
    congr 1
    refine List.map_congr_left fun i hi => ?_
    rw [part_form, part_form]
    exact (part1_behind (h i (List.mem_range.1 hi)) hf ht).2
theorem first_over {l : List Int} (c : Int) : ∀ n, (∀ i, i < n → at_ l (i + 1) ≤ c) ∨ ∃ j, j < n ∧ (∀ i, i < j → at_ l (i + 1) ≤ c) ∧ c < at_ l (j + 1)
  | 0 => .inl (fun i h => by omega)
  | n + 1 => by
    rcases first_over c n with h | ⟨j, hj, h1, h2⟩
    · by_cases hc : at_ l (n + 1) ≤ c
      · refine .inl fun i hi => ?_
        by_cases e : i = n
        · subst e; exact hc
        · exact h i (by omega)
      · exact .inr ⟨n, by omega, h, by omega⟩
    · exact .inr ⟨j, by omega, h1, h2⟩
/-- A RANGE THAT IS PARTED. -/
theorem parted {l : List Int} (hr : rightB l = true) {f c t : Int} (h0 : 0 ≤ c) (hf : f ≤ c) (ht : c ≤ t) :
    (partsTo l f t l.length = partsTo l f c l.length ++ partsTo l c t l.length ∧ ∀ u ∈ partsTo l f c l.length, ∀ v ∈ partsTo l c t l.length, u.1 ≠ v.1) ∨
    ∃ (P Q : List (Int × Int × Int)) (j x y w : Int), partsTo l f c l.length = P ++ [(j, x, y)] ∧ partsTo l c t l.length = (j, y, w) :: Q ∧ partsTo l f t l.length = P ++ [(j, x, w)] ++ Q := by
  rcases first_over (l := l) c l.length with h | ⟨j, hj, h1, h2⟩
  · obtain ⟨e1, e2⟩ := partsTo_before hf ht l.length (fun i hi => by rw [← at_succ l i hi]; exact h i hi)
    refine .inl ⟨by rw [e1, e2, List.append_nil], fun u _ v hv => ?_⟩
    rw [e2] at hv; cases hv
  · obtain ⟨b1, b2⟩ := partsTo_before hf ht j (fun i hi => by rw [← at_succ l i (by omega)]; exact h1 i hi)
    obtain ⟨r1, r2⟩ := restOf_behind (l := l) hf ht j (l.length - j - 1) (fun i hi => by
      have := at_mono hr (show j + 1 ≤ j + 1 + i by omega) (by omega)
      omega)
    have ha : at_ l j ≤ c := by
      cases j with
      | zero => simpa [at_] using h0
      | succ j => exact h1 j (by omega)
    rw [at_succ l j hj] at h2
    have s1 := partsTo_split l f t j l.length hj
    have s2 := partsTo_split l f c j l.length hj
    have s3 := partsTo_split l c t j l.length hj
    rw [r1, List.append_nil] at s2
    rw [b2, r2, List.nil_append] at s3
    rw [b1] at s1
    have m1 : ∀ u ∈ partsTo l f c j, u.1 < j := fun u hu => partsTo_fst hu
    have m2 : ∀ u ∈ restOf l f t j (l.length - j - 1), (j : Int) < u.1 := fun u hu => restOf_fst hu
    have m3 : ∀ f t, ∀ u ∈ part l f t j, u.1 = j := fun f t u hu => part1_fst (part_form l f t j ▸ hu)
    rcases part1_at (k := j) ha h2 hf ht with ⟨p1, p2⟩ | ⟨p1, p2⟩ | ⟨x, y, w, p1, p2, p3⟩
    · rw [← part_form, ← part_form] at p2
      rw [← part_form] at p1
      refine .inl ⟨by rw [s1, s2, s3, p1, p2]; simp, fun u hu v hv => ?_⟩
      rw [s2, p1, List.append_nil] at hu
      rw [s3] at hv
      have := m1 u hu
      rcases List.mem_append.1 hv with hv | hv
      · have := m3 _ _ v hv; omega
      · have := m2 v hv; omega
    · rw [← part_form, ← part_form] at p2
      rw [← part_form] at p1
      refine .inl ⟨by rw [s1, s2, s3, p1, p2]; simp, fun u hu v hv => ?_⟩
      rw [s2] at hu
      rw [s3, p1, List.nil_append] at hv
      have := m2 v hv
      rcases List.mem_append.1 hu with hu | hu
      · have := m1 u hu; omega
      · have := m3 _ _ u hu; omega
    · rw [← part_form] at p1 p2 p3
      exact .inr ⟨partsTo l f c j, restOf l f t j (l.length - j - 1), (j : Int), x, y, w, by rw [s2, p1], by rw [s3, p2]; rfl, by rw [s1, p3]⟩
end Go.Proofs.Ytbadkblofihjhaa
