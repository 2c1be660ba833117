import Derived.Test.YtbadkblofihjhaaPSpanPartedx3
import Derived.IntWalk
import Derived.Test.YtbadkblofihjhaaParted
namespace Go.Proofs.Ytbadkblofihjhaa.Pure.SpanParted_
set_option linter.unusedVariables false
set_option linter.unusedSimpArgs false
open Go.RowKit Go.Proofs.Ytbadkblofihjhaa Go.Proofs.Ytbadkblofihjhaa.PSpanParted Go.Proofs.YtbadkblofihjhaaW.PrintWords Go.Proofs.YtbadkblofihjhaaW.PrintLast Go.Proofs.YtbadkblofihjhaaW.PrintMore

theorem head_ok : souterrainlaw07_head.f 8 = some true := by kernel_rfl
theorem up {α : Type} {f : Nat → Option α} (hm : ∀ k, LeO (f k) (f (k + 1))) {r : α} {k : Nat} (h : f k = some r) : ∀ j, k ≤ j → f j = some r := by
  intro j hj
  induction j with
  | zero => rw [show k = 0 by omega] at h; exact h
  | succ j ih =>
    by_cases e : k = j + 1
    · subst e; exact h
    · exact hm j r (ih (by omega))
theorem head_up (k : Nat) (hk : 8 ≤ k) : souterrainlaw07_head.f k = some true := up souterrainlaw07_head.mono head_ok k hk
theorem clip_good (a0 a1 n : Int) (h0 : 0 ≤ a0) (h1 : a0 ≤ 1073741824) (h2 : 0 ≤ a1) (h3 : a1 ≤ a0) (h4 : 0 ≤ n) : span_Clip.f a0 a1 n = some (a1, a1 + mn n (a0 - a1), true) := by
  unfold span_Clip.f
  rw [if_neg (by omega), if_neg (by omega), if_neg (by omega), if_neg (by omega), if_neg (by omega)]
  rw [IntWalk.wrap64_in (a0 - a1) ⟨by omega, by omega⟩]
  have : 0 ≤ mn n (a0 - a1) ∧ mn n (a0 - a1) ≤ a0 - a1 := by unfold mn; split <;> omega
  rw [IntWalk.wrap64_in _ ⟨by omega, by omega⟩]

theorem same_l0 (l : List S34) (hl : l.length < 1000000) : ∀ (m k i : Nat), i + m = l.length → m < k → souterrainref07_Same.l0 k l l (i : Int) = some true
  | m, 0, i, _, hk => by omega
  | 0, k + 1, i, hi, _ => by
    unfold souterrainref07_Same.l0
    rw [if_neg (by omega)]
  | m + 1, k + 1, i, hi, hk => by
    unfold souterrainref07_Same.l0
    rw [if_pos (by omega), if_pos (by omega), if_pos (by omega), if_neg (by simp)]
    rw [IntWalk.wrap64_in _ ⟨by omega, by omega⟩]
    exact same_l0 l hl m k (i + 1) (by omega) (by omega)
theorem same_self (l : List S34) (hl : l.length < 1000000) (k : Nat) (hk : l.length < k) : souterrainref07_Same.f k l l = some true := by
  unfold souterrainref07_Same.f
  rw [if_pos rfl]
  exact same_l0 l hl l.length k 0 (by omega) hk

def enc (x : Int × Int × Int) : S34 := ⟨x.1, x.2.1, x.2.2⟩
theorem part_same (l : List Int) (f : Int) (i : Nat) : part l f f i = [] := by
  unfold part
  dsimp only
  rw [if_neg]
  split <;> split <;> omega
theorem partsTo_same (l : List Int) (f : Int) (n : Nat) : partsTo l f f n = [] := by
  induction n with
  | zero => rfl
  | succ n ih => rw [partsTo_succ, ih, part_same]; rfl
theorem parts_none (l : List Int) (off n : Int) (h : clipTo (sizeOf l) off n = off) : partsOf l off n = [] := by
  unfold partsOf
  rw [h, partsTo_same]
  split <;> rfl
theorem parts_len (l : List Int) (off n : Int) : (partsOf l off n).length ≤ 512 := by
  have : ∀ f t j, (partsTo l f t j).length ≤ j := by
    intro f t j
    induction j with
    | zero => simp [partsTo]
    | succ j ih =>
      rw [partsTo_succ, List.length_append]
      have := part_len l f t j
      omega
  unfold partsOf
  split
  · rename_i h
    simp only [Bool.and_eq_true] at h
    have h1 := (right_all h.2).1
    have := this off (clipTo (sizeOf l) off n) l.length
    omega
  · simp
theorem sum_bound {l : List Int} (h : rightB l = true) : 0 ≤ l.sum ∧ l.sum ≤ 2097152 := by
  have h1 := at_bound h l.length (Nat.le_refl _)
  rw [at_all] at h1
  have := (right_all h).1
  omega
theorem size_right {l : List Int} (h : rightB l = true) : sizeOf l = l.sum := by rw [sizeOf, h]; rfl
theorem partsTo_all {l : List Int} (h : rightB l = true) : ∀ j, j ≤ l.length → partsTo l 0 l.sum j = (List.range j).map fun (i : Nat) => ((i : Int), (0 : Int), l.getD i 0) := by
  intro j
  induction j with
  | zero => intro _; rfl
  | succ j ih =>
    intro hj
    rw [partsTo_succ, ih (by omega), List.range_succ, List.map_append]
    congr 1
    have h1 := at_bound h j (by omega)
    have h2 := right_getD h j (by omega)
    have h3 := at_mono h (show j + 1 ≤ l.length by omega) (Nat.le_refl _)
    rw [at_all, at_succ l j (by omega)] at h3
    show _ = [((j : Int), (0 : Int), l.getD j 0)]
    unfold part
    dsimp only
    generalize at_ l j = a at *
    generalize l.getD j 0 = z at *
    rw [show (if (0 : Int) - a < 0 then (0 : Int) else 0 - a) = 0 by split <;> omega, show (if z < l.sum - a then z else l.sum - a) = z by split <;> omega, if_pos (by omega)]
theorem parts_all {l : List Int} (h : rightB l = true) (n : Int) (hn : l.sum ≤ n) : partsOf l 0 n = (List.range l.length).map fun (i : Nat) => ((i : Int), (0 : Int), l.getD i 0) := by
  have hb := sum_bound h
  unfold partsOf
  rw [size_right h, h]
  have hc : clipOk l.sum 0 n = true := by simp only [clipOk, Bool.and_eq_true, decide_eq_true_eq]; omega
  rw [hc]
  have ht : clipTo l.sum 0 n = l.sum := by unfold clipTo; split <;> omega
  rw [ht]
  exact partsTo_all h _ (Nat.le_refl _)

/-- The sizes: one more than was told. -/
def sz (l : List Int) : List Int := l.map (1 + ·)
theorem sz_right {l : List Int} (hl : l.length ≤ 200) (hw : ∀ x ∈ l, 0 ≤ x ∧ x ≤ 255) : rightB (sz l) = true := by
  unfold rightB sz
  rw [List.length_map]
  simp only [Bool.and_eq_true, decide_eq_true_eq, Bool.not_eq_true', List.any_eq_false, List.mem_map]
  refine ⟨by omega, ?_⟩
  rintro _ ⟨x, hx, rfl⟩
  have := hw x hx
  simp only [wrongB, Bool.or_eq_true, decide_eq_true_eq]
  omega

theorem parts_of {l : List Int} (hr : rightB l = true) {off n : Int} (h0 : 0 ≤ off) (hn : 0 ≤ n) (hs : off + n ≤ l.sum) : partsOf l off n = partsTo l off (off + n) l.length := by
  have hb := sum_bound hr
  unfold partsOf
  rw [size_right hr, hr]
  have hc : clipOk l.sum off n = true := by simp only [clipOk, Bool.and_eq_true, decide_eq_true_eq]; omega
  have ht : clipTo l.sum off n = off + n := by unfold clipTo; split <;> omega
  rw [hc, ht]
  rfl
theorem rd_last (P : List S34) (x : S34) (Q : List S34) : rd_T34 (P ++ x :: Q) ((P.length : Nat) : Int) = x := by
  show (P ++ x :: Q).getD P.length z34 = x
  rw [List.getD_eq_getElem?_getD, List.getElem?_append_right (Nat.le_refl _)]; simp
theorem last (l : List Int) (hr : rightB l = true) (o m q : Int) (ho : 0 ≤ o) (ho2 : o ≤ 65535) (hm : 0 ≤ m) (hm2 : m ≤ 65535) (hq : 0 ≤ q) (hq2 : q ≤ 65535) (x0 : List Int) (k : Nat) (hk : 1000 < k) :
    souterrainlaw07_SpanParted.l0 (k + 1) x0 o m q true l (x0.length : Int) = some true := by
  have hb := sum_bound hr
  have hs := size_right hr
  unfold souterrainlaw07_SpanParted.l0
  rw [if_neg (by omega)]
  unfold span_Size.f
  rw [IntWalk.wrap64_in o ⟨by omega, by omega⟩, IntWalk.wrap64_in m ⟨by omega, by omega⟩, IntWalk.wrap64_in q ⟨by omega, by omega⟩, IntWalk.wrap64_in (m + 1) ⟨by omega, by omega⟩, IntWalk.wrap64_in (o + m) ⟨by omega, by omega⟩, if_neg (by omega), Option.bind_some, hs]
  by_cases hbig : o + m > l.sum
  · rw [if_pos hbig]
  rw [if_neg hbig]
  have hc0 : 0 ≤ Int.tmod q (m + 1) ∧ Int.tmod q (m + 1) < m + 1 := ⟨Int.tmod_nonneg _ hq, Int.tmod_lt_of_pos _ (by omega)⟩
  generalize Int.tmod q (m + 1) = c at hc0
  rw [IntWalk.wrap64_in (o + c) ⟨by omega, by omega⟩, IntWalk.wrap64_in (m - c) ⟨by omega, by omega⟩]
  unfold span_Parts.f
  have l1 := parts_len l o m
  have l2 := parts_len l o c
  have l3 := parts_len l (o + c) (m - c)
  rw [parts_of hr ho hm (by omega)] at l1 ⊢
  rw [parts_of hr ho hc0.1 (by omega)] at l2 ⊢
  rw [parts_of hr (by omega) (by omega) (by omega), show o + c + (m - c) = o + m by omega] at l3 ⊢
  have hp := parted hr (show 0 ≤ o + c by omega) (show o ≤ o + c by omega) (show o + c ≤ o + m by omega)
  generalize partsTo l o (o + m) l.length = all at hp l1
  generalize partsTo l o (o + c) l.length = one at hp l2
  generalize partsTo l (o + c) (o + m) l.length = two at hp l3
  simp only [Option.bind_some, List.nil_append, List.length_nil, Nat.zero_add]
  have he : (fun x : Int × Int × Int => (⟨x.1, x.2.1, x.2.2⟩ : S34)) = enc := rfl
  rw [he]
  have hself := same_self (all.map enc) (by rw [List.length_map]; omega) k (by rw [List.length_map]; omega)
  rw [if_pos (by rw [List.length_map]; omega), if_pos (by rw [List.length_map, List.length_map]; omega)]
  rcases hp with ⟨e, hne⟩ | ⟨P, Q, j, x, y, w, e1, e2, e3⟩
  · have hy : one.map enc ++ two.map enc = all.map enc := by rw [e, List.map_append]
    rw [hy, hself]
    simp only [Option.bind_some, if_true]
    by_cases hA : ((one.map enc).length : Int) > 0
    · rw [if_pos hA]
      by_cases hB : ((two.map enc).length : Int) > 0
      · rw [if_pos hB]
        rw [List.length_map] at hA hB
        rw [List.length_map, List.length_map, IntWalk.wrap64_in ((one.length : Int) - 1) ⟨by omega, by omega⟩, if_pos (by omega), if_pos (by omega), if_pos (by omega)]
        obtain ⟨P, u, rfl⟩ : ∃ P u, one = P ++ [u] := by
          rcases List.eq_nil_or_concat one with h | ⟨P, u, h⟩
          · subst h; simp at hA
          · exact ⟨P, u, by simpa using h⟩
        obtain ⟨v, Q, rfl⟩ : ∃ v Q, two = v :: Q := by
          cases two with
          | nil => simp at hB
          | cons v Q => exact ⟨v, Q, rfl⟩
        have hl : ((P ++ [u]).length : Int) - 1 = (((P.map enc).length : Nat) : Int) := by simp
        rw [hl, List.map_append, List.map_cons, List.map_nil, rd_last]
        have hv : rd_T34 ((v :: Q).map enc) 0 = enc v := rfl
        rw [hv, if_neg (by exact hne u (by simp) v (by simp))]
      · rw [if_neg hB]
    · rw [if_neg hA]
  · subst e1 e2 e3
    have e4 : (((P ++ [(j, x, y)]).map enc).length : Int) - 1 = (((P.map enc).length : Nat) : Int) := by simp
    have hl1 : ((P.map enc).length : Int) ≤ 512 := by simp at l2 ⊢; omega
    rw [if_pos (by first | omega | (simp; done) | (simp; omega) | (simp at l2 l3 ⊢; omega)), if_pos (by first | omega | (simp; done) | (simp; omega) | (simp at l2 l3 ⊢; omega)), e4, IntWalk.wrap64_in _ ⟨by omega, by omega⟩, if_pos (by first | omega | (simp; done) | (simp; omega) | (simp at l2 l3 ⊢; omega)), if_pos (by first | omega | (simp; done) | (simp; omega) | (simp at l2 l3 ⊢; omega)), if_pos (by first | omega | (simp; done) | (simp; omega) | (simp at l2 l3 ⊢; omega))]
    have r1 : rd_T34 ((P ++ [(j, x, y)]).map enc) (((P.map enc).length : Nat) : Int) = ⟨j, x, y⟩ := by
      rw [List.map_append]; exact rd_last _ _ _
    have r2 : rd_T34 (((j, y, w) :: Q).map enc) 0 = ⟨j, y, w⟩ := rfl
    rw [r1, r2, if_pos rfl, if_pos (by first | omega | (simp; done) | (simp; omega) | (simp at l2 l3 ⊢; omega)), if_pos (by first | omega | (simp; done) | (simp; omega) | (simp at l2 l3 ⊢; omega)), if_pos (by first | omega | (simp; done) | (simp; omega) | (simp at l2 l3 ⊢; omega))]
    have r3 : (P ++ [(j, x, y)]).map enc ++ List.drop 1 (((j, y, w) :: Q).map enc) = P.map enc ++ (⟨j, x, y⟩ : S34) :: Q.map enc := by
      simp [enc]
    rw [r3, rd_last, if_pos (by first | omega | (simp; done) | (simp; omega) | (simp at l2 l3 ⊢; omega))]
    have r4 : (P.map enc ++ (⟨j, x, y⟩ : S34) :: Q.map enc).set (((P.map enc).length : Nat) : Int).toNat ⟨j, x, w⟩ = (P ++ [(j, x, w)] ++ Q).map enc := by
      rw [Int.toNat_natCast, List.set_append]
      simp [enc]
    rw [r4, hself]
    rfl
theorem loop (l : List Int) (hl : l.length ≤ 200) (hw : ∀ x ∈ l, 0 ≤ x ∧ x ≤ 255) (o m q : Int) (ho : 0 ≤ o) (ho2 : o ≤ 65535) (hm : 0 ≤ m) (hm2 : m ≤ 65535) (hq : 0 ≤ q) (hq2 : q ≤ 65535) : ∀ (r k i : Nat), i + r = l.length → r + 1000 < k →
    souterrainlaw07_SpanParted.l0 (k + 1) l o m q true (sz (l.take i)) (i : Int) = some true
  | 0, k, i, hi, hk => by
    have e : i = l.length := by omega
    subst e
    rw [List.take_length]
    exact last (sz l) (sz_right hl hw) o m q ho ho2 hm hm2 hq hq2 l k (by omega)
  | r + 1, 0, i, hi, hk => by omega
  | r + 1, k + 1, i, hi, hk => by
    have hlen : (sz (l.take i)).length = i := by simp [sz]; omega
    have hx := hw (l.getD i 0) (by rw [List.getD_eq_getElem?_getD, List.getElem?_eq_getElem (by omega)]; simp)
    have hsz : sz (l.take (i + 1)) = sz (l.take i) ++ [1 + l.getD i 0] := by
      unfold sz
      rw [List.take_succ_eq_append_getElem (by omega), List.map_append, List.getD_eq_getElem?_getD, List.getElem?_eq_getElem (by omega)]; rfl
    have ih := loop l hl hw o m q ho ho2 hm hm2 hq hq2 r k (i + 1) (by omega) (by omega)
    rw [hsz] at ih
    unfold souterrainlaw07_SpanParted.l0
    rw [if_pos (by omega), if_pos (by omega), if_pos (by omega)]
    have e1 : rd l (i : Int) = l.getD i 0 := rfl
    rw [e1, IntWalk.wrap64_in (l.getD i 0) ⟨by omega, by omega⟩, IntWalk.wrap64_in (1 + l.getD i 0) ⟨by omega, by omega⟩, IntWalk.wrap64_in ((i : Int) + 1) ⟨by omega, by omega⟩]
    exact ih
theorem u16_of {n : Int} (w1 : (Lit.int .u16 n).wf = true) : 0 ≤ n ∧ n ≤ 65535 := by
  simp [Lit.wf, IntKind.min, IntKind.max, IntKind.signed, IntKind.bits] at w1
  omega
theorem SpanParted : souterrainlaw07_SpanParted.Pure := by
  intro l a1 a2 a3 hm hb hw w1 w2 w3
  have hw' : ∀ x ∈ l, 0 ≤ x ∧ x ≤ 255 := fun x hx => by
    have := hw x hx
    simp [Lit.wf, IntKind.min, IntKind.max, IntKind.signed, IntKind.bits] at this
    omega
  obtain ⟨o1, o2⟩ := u16_of w1
  obtain ⟨m1, m2⟩ := u16_of w2
  obtain ⟨q1, q2⟩ := u16_of w3
  refine ⟨2001, ?_⟩
  unfold souterrainlaw07_SpanParted.f
  rw [head_up _ (by omega), Option.bind_some]
  by_cases hl : (l.length : Int) > 200
  · rw [if_pos hl]
  · rw [if_neg hl]
    exact loop l (by omega) hw' a1 a2 a3 o1 o2 m1 m2 q1 q2 l.length 2000 0 (by omega) (by omega)

end Go.Proofs.Ytbadkblofihjhaa.Pure.SpanParted_
namespace Go.Proofs.Ytbadkblofihjhaa.Pure
theorem SpanParted : PSpanParted.souterrainlaw07_SpanParted.Pure := SpanParted_.SpanParted
end Go.Proofs.Ytbadkblofihjhaa.Pure
