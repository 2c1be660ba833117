import Derived.Test.YtgolccldopofbaaPNameSortedx2
import Derived.Test.YtgolccldopofbaaSets
import Derived.IntWalk
namespace Go.Proofs.Ytgolccldopofbaa.Pure.NameSorted_
set_option linter.unusedVariables false
set_option linter.unusedSimpArgs false
open Go.RowKit Go.Proofs.Ytgolccldopofbaa Go.Proofs.Ytgolccldopofbaa.PNameSorted Go.Proofs.YtgolccldopofbaaW.PrintWords Go.Proofs.YtgolccldopofbaaW.PrintLast

theorem up {α : Type} {f : Nat → Option α} (hm : ∀ k, LeO (f k) (f (k + 1))) {r : α} {k : Nat} (h : f k = some r) : ∀ j, k ≤ j → f j = some r := by
  intro j hj
  induction j with
  | zero => rw [show k = 0 by omega] at h; exact h
  | succ j ih =>
    by_cases e : k = j + 1
    · subst e; exact h
    · exact hm j r (ih (by omega))
theorem num_f (b : UInt8) (c n : Int) (hc : bt ⟨#[b]⟩ 0 = c) (h0 : 0 ≤ n) (h1 : n ≤ 99999999) : name_numbered.f ⟨#[b]⟩ n = some (strOfNums (numberedL c n)) := by
  unfold name_numbered.f
  rw [if_pos (by rfl), if_pos h0, if_pos h1, hc]
theorem of_seg (k : Nat) (n : Int) (h0 : 0 ≤ n) (h1 : n ≤ 99999999) : name_Of.f (k + 1) 1 n = some (strOfNums (numberedL 115 n)) := by
  unfold name_Of.f
  rw [if_neg (by omega)]
  rw [name_Of.j0, if_neg (by simp; omega), if_pos rfl, num_f 115 115 n rfl h0 h1]
  rfl
theorem of_hint (k : Nat) (n : Int) (h0 : 0 ≤ n) (h1 : n ≤ 99999999) : name_Of.f (k + 1) 2 n = some (strOfNums (numberedL 104 n)) := by
  unfold name_Of.f
  rw [if_neg (by omega)]
  rw [name_Of.j0, if_neg (by simp; omega), if_neg (by omega), if_pos rfl, num_f 104 104 n rfl h0 h1]
  rfl
theorem of_man (k : Nat) : name_Of.f (k + 1) 3 0 = some ⟨#[109]⟩ := rfl
theorem head_ok : souterrainlaw05_head.f 8 = some true := by
  unfold souterrainlaw05_head.f name_Parse.f name_Segments.f
  rw [parse42, p1, of_seg 7 42 (by omega) (by omega), segs_head]
  simp only [Option.bind_some]
  rw [if_pos str42]
  have e3 : name_Of.f 8 3 0 = some ⟨#[109]⟩ := rfl
  have e4 : name_Of.f 8 4 0 = some ⟨#[116]⟩ := rfl
  have e5 : name_Of.f 8 3 1 = some ⟨#[]⟩ := rfl
  have e6 : name_Of.f 8 1 100000000 = some ⟨#[]⟩ := rfl
  rw [e3, Option.bind_some, if_pos (by rw [ByteArray.toList_eq]), e4, Option.bind_some, if_pos (by rw [ByteArray.toList_eq]), e5, Option.bind_some, if_pos (by rw [ByteArray.toList_eq]), e6, Option.bind_some, if_pos (by rw [ByteArray.toList_eq])]
  rw [if_pos trivial, if_pos trivial, if_pos trivial, if_neg (by decide), if_pos (by decide), Option.bind_some]
  have e7 : souterrainref05_SameInts.f 8 [2, 7] [2, 7] = some true := by kernel_rfl
  rw [e7]
  rfl
theorem head_up (k : Nat) (hk : 8 ≤ k) : souterrainlaw05_head.f k = some true := up souterrainlaw05_head.mono head_ok k hk
def nm (n : Int) : ByteArray := strOfNums (numberedL 115 n)
theorem seg_nm (n : Int) (h0 : 0 ≤ n) (h1 : n ≤ 99999999) : segOf (nm n) = some n := by
  rw [segOf, nm, parse_numbered 115 1 n (.inl ⟨rfl, rfl⟩) h0 h1]; rfl
theorem segs_nm (xs : List Int) (h : ∀ x ∈ xs, 0 ≤ x ∧ x ≤ 99999999) : (xs.map nm).filterMap segOf = xs := by
  induction xs with
  | nil => rfl
  | cons x xs ih =>
    have := h x List.mem_cons_self
    rw [List.map_cons, List.filterMap_cons, seg_nm x this.1 this.2, ih (fun z hz => h z (List.mem_cons_of_mem _ hz))]
theorem same_l0 (l : List Int) (hl : l.length < 1000000) : ∀ (m k i : Nat), i + m = l.length → m < k → souterrainref05_SameInts.l0 k l l (i : Int) = some true
  | m, 0, i, _, hk => by omega
  | 0, k + 1, i, hi, _ => by
    unfold souterrainref05_SameInts.l0
    rw [if_neg (by omega)]
  | m + 1, k + 1, i, hi, hk => by
    unfold souterrainref05_SameInts.l0
    rw [if_pos (by omega), if_pos (by omega), if_pos (by omega), if_pos rfl]
    rw [IntWalk.wrap64_in _ ⟨by omega, by omega⟩]
    exact same_l0 l hl m k (i + 1) (by omega) (by omega)
theorem same_self (l : List Int) (hl : l.length < 1000000) (k : Nat) (hk : l.length < k) : souterrainref05_SameInts.f k l l = some true := by
  unfold souterrainref05_SameInts.f
  rw [if_pos rfl]
  exact same_l0 l hl l.length k 0 (by omega) hk
/-- The place that is taken at place i. -/
def at2 (l : List Int) (t : Int) (i : Nat) : Int := rd l (Int.tmod ((l.length : Int) - 1 - i + t) l.length)
def twice (l : List Int) (t : Int) (i : Nat) : List Int := (List.range i).flatMap fun j => [at2 l t j, at2 l t j]
theorem twice_succ (l : List Int) (t : Int) (i : Nat) : twice l t (i + 1) = twice l t i ++ [at2 l t i, at2 l t i] := by
  simp [twice, List.range_succ, List.flatMap_append]
theorem twice_len (l : List Int) (t : Int) : ∀ i, (twice l t i).length = 2 * i
  | 0 => rfl
  | i + 1 => by rw [twice_succ, List.length_append, twice_len l t i]; simp; omega
theorem idx (l : List Int) (t : Int) (ht : 0 ≤ t) (i : Nat) (hi : i < l.length) : 0 ≤ Int.tmod ((l.length : Int) - 1 - i + t) l.length ∧ Int.tmod ((l.length : Int) - 1 - i + t) l.length < l.length :=
  ⟨Int.tmod_nonneg _ (by omega), Int.tmod_lt_of_pos _ (by omega)⟩
theorem at2_mem (l : List Int) (t : Int) (ht : 0 ≤ t) (i : Nat) (hi : i < l.length) : at2 l t i ∈ l := by
  obtain ⟨h1, h2⟩ := idx l t ht i hi
  unfold at2 rd
  rw [List.getD_eq_getElem?_getD, List.getElem?_eq_getElem (by omega)]; simp
theorem twice_mem (l : List Int) (t : Int) (ht : 0 ≤ t) (z : Int) : z ∈ l ↔ z ∈ twice l t l.length := by
  unfold twice
  rw [List.mem_flatMap]
  constructor
  · intro h
    obtain ⟨m, hm, rfl⟩ := List.getElem_of_mem h
    have hd : 0 ≤ (l.length : Int) - 1 + t - m := by omega
    have hj := Int.emod_lt_of_pos ((l.length : Int) - 1 + t - m) (show (0 : Int) < l.length by omega)
    have hj0 := Int.emod_nonneg ((l.length : Int) - 1 + t - m) (show (l.length : Int) ≠ 0 by omega)
    have hde := Int.mul_ediv_add_emod ((l.length : Int) - 1 + t - m) l.length
    refine ⟨(((l.length : Int) - 1 + t - m) % l.length).toNat, List.mem_range.2 (by omega), ?_⟩
    have e : at2 l t (((l.length : Int) - 1 + t - m) % l.length).toNat = l[m] := by
      unfold at2
      rw [Int.toNat_of_nonneg hj0]
      generalize ((l.length : Int) - 1 + t - m) % l.length = j at *
      generalize ((l.length : Int) - 1 + t - m) / l.length = q at *
      rw [show (l.length : Int) - 1 - j + t = m + l.length * q by omega, Int.tmod_eq_emod_of_nonneg (by omega), Int.add_mul_emod_self_left, Int.emod_eq_of_lt (by omega) (by omega)]
      show l.getD m 0 = l[m]
      rw [List.getD_eq_getElem?_getD, List.getElem?_eq_getElem hm]; rfl
    rw [e]; simp
  · rintro ⟨i, hi, hz⟩
    have := at2_mem l t ht i (List.mem_range.1 hi)
    simp at hz
    rw [hz]; exact this
theorem last (l : List Int) (hl : l.length ≤ 200) (hw : ∀ x ∈ l, 0 ≤ x ∧ x ≤ 65535) (t : Int) (ht : 0 ≤ t) (k : Nat) (hk : 1000 < k) :
    souterrainlaw05_NameSorted.l0 (k + 1) l t true (l.map nm) ((twice l t l.length).map nm) (l.length : Int) = some true := by
  have hw2 : ∀ x ∈ twice l t l.length, 0 ≤ x ∧ x ≤ 65535 := fun x hx => hw x ((twice_mem l t ht x).2 hx)
  unfold souterrainlaw05_NameSorted.l0
  rw [if_neg (by omega), if_pos rfl]
  unfold name_Segments.f
  have e1 : segsF (l.map nm) = segsF ((twice l t l.length).map nm) := by
    unfold segsF
    rw [segs_nm _ (fun x hx => by have := hw x hx; omega), segs_nm _ (fun x hx => by have := hw2 x hx; omega)]
    exact canon (twice_mem l t ht)
  have hlen : (segsF (l.map nm)).length ≤ 200 := by
    unfold segsF
    rw [segs_nm _ (fun x hx => by have := hw x hx; omega)]
    refine Nat.le_trans (Lib.compact_length_le _) ?_
    rw [List.length_mergeSort]; exact hl
  rw [if_pos (by rw [List.length_map]; omega), Option.bind_some, if_pos (by rw [List.length_map, twice_len]; omega), Option.bind_some, ← e1, same_self _ (by omega) k (by omega)]
  rfl
theorem loop (l : List Int) (hl : l.length ≤ 200) (hw : ∀ x ∈ l, 0 ≤ x ∧ x ≤ 65535) (t : Int) (ht : 0 ≤ t) (ht2 : t ≤ 255) : ∀ (m k i : Nat), i + m = l.length → m + 1000 < k →
    souterrainlaw05_NameSorted.l0 (k + 1) l t true ((l.take i).map nm) ((twice l t i).map nm) (i : Int) = some true
  | 0, k, i, hi, hk => by
    have e : i = l.length := by omega
    subst e
    rw [List.take_length]
    exact last l hl hw t ht k (by omega)
  | m + 1, 0, i, hi, hk => by omega
  | m + 1, k + 1, i, hi, hk => by
    have hlt : i < l.length := by omega
    have hmem : l.getD i 0 ∈ l := by rw [List.getD_eq_getElem?_getD, List.getElem?_eq_getElem hlt]; simp
    have hx := hw _ hmem
    have hy := hw _ (at2_mem l t ht i hlt)
    obtain ⟨i1, i2⟩ := idx l t ht i hlt
    have htk : l.take (i + 1) = l.take i ++ [l.getD i 0] := by
      rw [List.take_succ_eq_append_getElem hlt, List.getD_eq_getElem?_getD, List.getElem?_eq_getElem hlt]; rfl
    have ih := loop l hl hw t ht ht2 m k (i + 1) (by omega) (by omega)
    rw [htk, twice_succ, List.map_append, List.map_append] at ih
    have hl1 : ((l.take i).map nm).length ≤ 200 := by simp; omega
    have hl2 : ((twice l t i).map nm).length ≤ 400 := by rw [List.length_map, twice_len]; omega
    unfold souterrainlaw05_NameSorted.l0
    have e1 : rd l (i : Int) = l.getD i 0 := rfl
    rw [if_pos (by omega), if_pos (by omega), e1, IntWalk.wrap64_in (l.getD i 0) ⟨by omega, by omega⟩, IntWalk.wrap64_in ((l.length : Int) - 1) ⟨by omega, by omega⟩, IntWalk.wrap64_in ((l.length : Int) - 1 - i) ⟨by omega, by omega⟩, IntWalk.wrap64_in t ⟨by omega, by omega⟩, IntWalk.wrap64_in ((l.length : Int) - 1 - i + t) ⟨by omega, by omega⟩]
    rw [show rd l (Int.tmod ((l.length : Int) - 1 - i + t) l.length) = at2 l t i from rfl, IntWalk.wrap64_in (at2 l t i) ⟨by omega, by omega⟩]
    rw [of_seg k (l.getD i 0) (by omega) (by omega), of_seg k (at2 l t i) (by omega) (by omega)]
    simp only [Option.bind_some]
    rw [if_pos (by omega), if_neg (by omega), if_pos i1, if_pos i2, if_pos (by simp only [List.length_cons, List.length_nil]; omega), IntWalk.wrap64_in ((i : Int) + 1) ⟨by omega, by omega⟩]
    exact ih
theorem NameSorted : souterrainlaw05_NameSorted.Pure := by
  intro l a1 hm hb hw w1
  have hw' : ∀ x ∈ l, 0 ≤ x ∧ x ≤ 65535 := fun x hx => by
    have := hw x hx
    simpa [Lit.wf, IntKind.min, IntKind.max, IntKind.signed, IntKind.bits] using this
  have ha : 0 ≤ a1 ∧ a1 ≤ 255 := by simpa [Lit.wf, IntKind.min, IntKind.max, IntKind.signed, IntKind.bits] using w1
  refine ⟨2001, ?_⟩
  unfold souterrainlaw05_NameSorted.f
  rw [head_up _ (by omega), Option.bind_some]
  by_cases hl : (l.length : Int) > 200
  · rw [if_pos hl]
  · rw [if_neg hl]
    exact loop l (by omega) hw' a1 ha.1 ha.2 l.length 2000 0 (by omega) (by omega)
end Go.Proofs.Ytgolccldopofbaa.Pure.NameSorted_
namespace Go.Proofs.Ytgolccldopofbaa.Pure
theorem NameSorted : PNameSorted.souterrainlaw05_NameSorted.Pure := NameSorted_.NameSorted
end Go.Proofs.Ytgolccldopofbaa.Pure
