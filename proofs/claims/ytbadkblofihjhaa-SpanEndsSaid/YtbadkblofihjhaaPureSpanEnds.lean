import Derived.Test.YtbadkblofihjhaaPSpanEndsx2
import Derived.IntWalk
namespace Go.Proofs.Ytbadkblofihjhaa.Pure.SpanEnds_
set_option linter.unusedVariables false
set_option linter.unusedSimpArgs false
open Go.RowKit Go.Proofs.Ytbadkblofihjhaa Go.Proofs.Ytbadkblofihjhaa.PSpanEnds Go.Proofs.YtbadkblofihjhaaW.PrintWords Go.Proofs.YtbadkblofihjhaaW.PrintLast Go.Proofs.YtbadkblofihjhaaW.PrintMore

theorem head_ok : souterrainlaw07_head.f 8 = some true := by kernel_rfl
theorem up {α : Type} {f : Nat → Option α} (hm : ∀ k, LeO (f k) (f (k + 1))) {r : α} {k : Nat} (h : f k = some r) : ∀ j, k ≤ j → f j = some r := by
  intro j hj
  induction j with
  | zero => rw [show k = 0 by omega] at h; exact h
  | succ j ih =>
    by_cases e : k = j + 1
    · subst e; exact h
    · exact hm j r (ih (by omega))
theorem head_up (k : Nat) (hk : 8 ≤ k) : souterrainlaw07_head.f k = some true := up souterrainlaw07_head.mono head_ok k hk
theorem clip_good (a0 a1 n : Int) (h0 : 0 ≤ a0) (h1 : a0 ≤ 1073741824) (h2 : 0 ≤ a1) (h3 : a1 ≤ a0) (h4 : 0 ≤ n) : span_Clip.f a0 a1 n = some (a1, a1 + mn n (a0 - a1), true) := by
  unfold span_Clip.f
  rw [if_neg (by omega), if_neg (by omega), if_neg (by omega), if_neg (by omega), if_neg (by omega)]
  rw [IntWalk.wrap64_in (a0 - a1) ⟨by omega, by omega⟩]
  have : 0 ≤ mn n (a0 - a1) ∧ mn n (a0 - a1) ≤ a0 - a1 := by unfold mn; split <;> omega
  rw [IntWalk.wrap64_in _ ⟨by omega, by omega⟩]

theorem same_l0 (l : List S34) (hl : l.length < 1000000) : ∀ (m k i : Nat), i + m = l.length → m < k → souterrainref07_Same.l0 k l l (i : Int) = some true
  | m, 0, i, _, hk => by omega
  | 0, k + 1, i, hi, _ => by
    unfold souterrainref07_Same.l0
    rw [if_neg (by omega)]
  | m + 1, k + 1, i, hi, hk => by
    unfold souterrainref07_Same.l0
    rw [if_pos (by omega), if_pos (by omega), if_pos (by omega), if_neg (by simp)]
    rw [IntWalk.wrap64_in _ ⟨by omega, by omega⟩]
    exact same_l0 l hl m k (i + 1) (by omega) (by omega)
theorem same_self (l : List S34) (hl : l.length < 1000000) (k : Nat) (hk : l.length < k) : souterrainref07_Same.f k l l = some true := by
  unfold souterrainref07_Same.f
  rw [if_pos rfl]
  exact same_l0 l hl l.length k 0 (by omega) hk

def enc (x : Int × Int × Int) : S34 := ⟨x.1, x.2.1, x.2.2⟩
theorem part_same (l : List Int) (f : Int) (i : Nat) : part l f f i = [] := by
  unfold part
  dsimp only
  rw [if_neg]
  split <;> split <;> omega
theorem partsTo_same (l : List Int) (f : Int) (n : Nat) : partsTo l f f n = [] := by
  induction n with
  | zero => rfl
  | succ n ih => rw [partsTo_succ, ih, part_same]; rfl
theorem parts_none (l : List Int) (off n : Int) (h : clipTo (sizeOf l) off n = off) : partsOf l off n = [] := by
  unfold partsOf
  rw [h, partsTo_same]
  split <;> rfl
theorem parts_len (l : List Int) (off n : Int) : (partsOf l off n).length ≤ 512 := by
  have : ∀ f t j, (partsTo l f t j).length ≤ j := by
    intro f t j
    induction j with
    | zero => simp [partsTo]
    | succ j ih =>
      rw [partsTo_succ, List.length_append]
      have := part_len l f t j
      omega
  unfold partsOf
  split
  · rename_i h
    simp only [Bool.and_eq_true] at h
    have h1 := (right_all h.2).1
    have := this off (clipTo (sizeOf l) off n) l.length
    omega
  · simp
theorem sum_bound {l : List Int} (h : rightB l = true) : 0 ≤ l.sum ∧ l.sum ≤ 2097152 := by
  have h1 := at_bound h l.length (Nat.le_refl _)
  rw [at_all] at h1
  have := (right_all h).1
  omega
theorem size_right {l : List Int} (h : rightB l = true) : sizeOf l = l.sum := by rw [sizeOf, h]; rfl
theorem partsTo_all {l : List Int} (h : rightB l = true) : ∀ j, j ≤ l.length → partsTo l 0 l.sum j = (List.range j).map fun (i : Nat) => ((i : Int), (0 : Int), l.getD i 0) := by
  intro j
  induction j with
  | zero => intro _; rfl
  | succ j ih =>
    intro hj
    rw [partsTo_succ, ih (by omega), List.range_succ, List.map_append]
    congr 1
    have h1 := at_bound h j (by omega)
    have h2 := right_getD h j (by omega)
    have h3 := at_mono h (show j + 1 ≤ l.length by omega) (Nat.le_refl _)
    rw [at_all, at_succ l j (by omega)] at h3
    show _ = [((j : Int), (0 : Int), l.getD j 0)]
    unfold part
    dsimp only
    generalize at_ l j = a at *
    generalize l.getD j 0 = z at *
    rw [show (if (0 : Int) - a < 0 then (0 : Int) else 0 - a) = 0 by split <;> omega, show (if z < l.sum - a then z else l.sum - a) = z by split <;> omega, if_pos (by omega)]
theorem parts_all {l : List Int} (h : rightB l = true) (n : Int) (hn : l.sum ≤ n) : partsOf l 0 n = (List.range l.length).map fun (i : Nat) => ((i : Int), (0 : Int), l.getD i 0) := by
  have hb := sum_bound h
  unfold partsOf
  rw [size_right h, h]
  have hc : clipOk l.sum 0 n = true := by simp only [clipOk, Bool.and_eq_true, decide_eq_true_eq]; omega
  rw [hc]
  have ht : clipTo l.sum 0 n = l.sum := by unfold clipTo; split <;> omega
  rw [ht]
  exact partsTo_all h _ (Nat.le_refl _)

/-- The sizes: one more than was told. -/
def sz (l : List Int) : List Int := l.map (1 + ·)
def want (l : List Int) (i : Nat) : List S34 := (List.range i).map fun (j : Nat) => (⟨(j : Int), 0, 1 + l.getD j 0⟩ : S34)
theorem sz_right {l : List Int} (hl : l.length ≤ 200) (hw : ∀ x ∈ l, 0 ≤ x ∧ x ≤ 255) : rightB (sz l) = true := by
  unfold rightB sz
  rw [List.length_map]
  simp only [Bool.and_eq_true, decide_eq_true_eq, Bool.not_eq_true', List.any_eq_false, List.mem_map]
  refine ⟨by omega, ?_⟩
  rintro _ ⟨x, hx, rfl⟩
  have := hw x hx
  simp only [wrongB, Bool.or_eq_true, decide_eq_true_eq]
  omega
theorem sz_get (l : List Int) (i : Nat) (hi : i < l.length) : (sz l).getD i 0 = 1 + l.getD i 0 := by
  simp [sz, List.getD_eq_getElem?_getD, List.getElem?_eq_getElem hi]
theorem want_all (l : List Int) : ((List.range (sz l).length).map fun (i : Nat) => ((i : Int), (0 : Int), (sz l).getD i 0)).map enc = want l l.length := by
  rw [List.map_map]
  have e : (sz l).length = l.length := by simp [sz]
  rw [e]
  unfold want
  apply List.map_congr_left
  intro i hi
  have := sz_get l i (List.mem_range.1 hi)
  simp only [Function.comp, enc]
  rw [this]
theorem last (l : List Int) (hl : l.length ≤ 200) (hw : ∀ x ∈ l, 0 ≤ x ∧ x ≤ 255) (a1 : Int) (ha : 0 ≤ a1) (ha2 : a1 ≤ 65535) (k : Nat) (hk : 1000 < k) :
    souterrainlaw07_SpanEnds.l0 (k + 1) l a1 true (sz l) (want l l.length) (l.length : Int) = some true := by
  have hr := sz_right hl hw
  have hb := sum_bound hr
  have hs := size_right hr
  have hlen : (want l l.length).length = l.length := by simp [want]
  unfold souterrainlaw07_SpanEnds.l0
  rw [if_neg (by omega)]
  unfold span_Size.f
  rw [Option.bind_some, hs, IntWalk.wrap64_in _ ⟨by omega, by omega⟩, if_neg (by omega), if_pos rfl]
  have hp : ∀ n, (sz l).sum ≤ n → span_Parts.f (sz l) 0 n = some (want l l.length) := fun n hn => by
    unfold span_Parts.f
    rw [parts_all hr n hn, ← want_all]; rfl
  have hself := same_self (want l l.length) (by omega) k (by omega)
  rw [hp _ (Int.le_refl _), Option.bind_some, hself, Option.bind_some, if_pos rfl, hp _ (by omega), Option.bind_some, hself, Option.bind_some, if_pos rfl]
  have e1 : partsOf (sz l) (sz l).sum 9 = [] := parts_none _ _ _ (by rw [hs]; unfold clipTo; rw [if_pos (by omega)])
  have hk0 : 0 ≤ Int.tmod a1 ((sz l).sum + 1) ∧ Int.tmod a1 ((sz l).sum + 1) < (sz l).sum + 1 := ⟨Int.tmod_nonneg _ ha, Int.tmod_lt_of_pos _ (by omega)⟩
  have e2 : partsOf (sz l) (Int.tmod a1 ((sz l).sum + 1)) 0 = [] := parts_none _ _ _ (by rw [hs]; unfold clipTo; rw [if_neg (by omega)]; omega)
  have e3 : partsOf (sz l) ((sz l).sum + 1) 1 = [] := by
    unfold partsOf
    have : clipOk (sizeOf (sz l)) ((sz l).sum + 1) 1 = false := by
      rw [hs]
      simp only [clipOk, Bool.and_eq_false_iff, decide_eq_false_iff_not]; omega
    rw [this]; rfl
  unfold span_Parts.f
  rw [e1, Option.bind_some, List.map_nil, if_pos (by rfl), IntWalk.wrap64_in a1 ⟨by omega, by omega⟩, e2, Option.bind_some, List.map_nil, if_pos (by rfl), e3, Option.bind_some]
  rfl
theorem loop (l : List Int) (hl : l.length ≤ 200) (hw : ∀ x ∈ l, 0 ≤ x ∧ x ≤ 255) (a1 : Int) (ha : 0 ≤ a1) (ha2 : a1 ≤ 65535) : ∀ (m k i : Nat), i + m = l.length → m + 1000 < k →
    souterrainlaw07_SpanEnds.l0 (k + 1) l a1 true (sz (l.take i)) (want l i) (i : Int) = some true
  | 0, k, i, hi, hk => by
    have e : i = l.length := by omega
    subst e
    rw [List.take_length]
    exact last l hl hw a1 ha ha2 k (by omega)
  | m + 1, 0, i, hi, hk => by omega
  | m + 1, k + 1, i, hi, hk => by
    have hlen : (sz (l.take i)).length = i := by simp [sz]; omega
    have hwl : (want l i).length = i := by simp [want]
    have hx := hw (l.getD i 0) (by rw [List.getD_eq_getElem?_getD, List.getElem?_eq_getElem (by omega)]; simp)
    have hsz : sz (l.take (i + 1)) = sz (l.take i) ++ [1 + l.getD i 0] := by
      unfold sz
      rw [List.take_succ_eq_append_getElem (by omega), List.map_append, List.getD_eq_getElem?_getD, List.getElem?_eq_getElem (by omega)]; rfl
    have hwt : want l (i + 1) = want l i ++ [(⟨(i : Int), 0, 1 + l.getD i 0⟩ : S34)] := by
      unfold want
      rw [List.range_succ, List.map_append]; rfl
    have ih := loop l hl hw a1 ha ha2 m k (i + 1) (by omega) (by omega)
    rw [hsz, hwt] at ih
    unfold souterrainlaw07_SpanEnds.l0
    rw [if_pos (by omega), if_pos (by omega), if_pos (by omega), Option.bind_some]
    have e1 : rd l (i : Int) = l.getD i 0 := rfl
    rw [e1, IntWalk.wrap64_in (l.getD i 0) ⟨by omega, by omega⟩, IntWalk.wrap64_in (1 + l.getD i 0) ⟨by omega, by omega⟩]
    have e2 : rd (sz (l.take i) ++ [1 + l.getD i 0]) (i : Int) = 1 + l.getD i 0 := by
      show (sz (l.take i) ++ [1 + l.getD i 0]).getD i 0 = _
      rw [List.getD_eq_getElem?_getD, List.getElem?_append_right (by omega), hlen]; simp
    rw [if_pos (by rw [List.length_append, hlen, List.length_singleton]; omega), if_pos (by omega), e2, IntWalk.wrap64_in ((i : Int) + 1) ⟨by omega, by omega⟩]
    exact ih
theorem SpanEnds : souterrainlaw07_SpanEnds.Pure := by
  intro l a1 hm hb hw w1
  have hw' : ∀ x ∈ l, 0 ≤ x ∧ x ≤ 255 := fun x hx => by
    have := hw x hx
    simp [Lit.wf, IntKind.min, IntKind.max, IntKind.signed, IntKind.bits] at this
    omega
  have ha : 0 ≤ a1 ∧ a1 ≤ 65535 := by
    simp [Lit.wf, IntKind.min, IntKind.max, IntKind.signed, IntKind.bits] at w1
    omega
  refine ⟨2001, ?_⟩
  unfold souterrainlaw07_SpanEnds.f
  rw [head_up _ (by omega), Option.bind_some]
  by_cases hl : (l.length : Int) > 200
  · rw [if_pos hl]
  · rw [if_neg hl]
    exact loop l (by omega) hw' a1 ha.1 ha.2 l.length 2000 0 (by omega) (by omega)

end Go.Proofs.Ytbadkblofihjhaa.Pure.SpanEnds_
namespace Go.Proofs.Ytbadkblofihjhaa.Pure
theorem SpanEnds : PSpanEnds.souterrainlaw07_SpanEnds.Pure := SpanEnds_.SpanEnds
end Go.Proofs.Ytbadkblofihjhaa.Pure
