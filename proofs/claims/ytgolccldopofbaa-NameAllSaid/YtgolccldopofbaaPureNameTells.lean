import Derived.Test.YtgolccldopofbaaPNameTellsx3
import Derived.Test.YtgolccldopofbaaSets
import Derived.IntWalk
namespace Go.Proofs.Ytgolccldopofbaa.Pure.NameTells_
set_option linter.unusedVariables false
set_option linter.unusedSimpArgs false
open Go.RowKit Go.Proofs.Ytgolccldopofbaa Go.Proofs.Ytgolccldopofbaa.PNameTells Go.Proofs.YtgolccldopofbaaW.PrintWords Go.Proofs.YtgolccldopofbaaW.PrintLast

theorem num_f (b : UInt8) (c n : Int) (hc : bt ⟨#[b]⟩ 0 = c) (h0 : 0 ≤ n) (h1 : n ≤ 99999999) : name_numbered.f ⟨#[b]⟩ n = some (strOfNums (numberedL c n)) := by
  unfold name_numbered.f
  rw [if_pos (by rfl), if_pos h0, if_pos h1, hc]
theorem of_seg (k : Nat) (n : Int) (h0 : 0 ≤ n) (h1 : n ≤ 99999999) : name_Of.f (k + 1) 1 n = some (strOfNums (numberedL 115 n)) := by
  unfold name_Of.f
  rw [if_neg (by omega)]
  rw [name_Of.j0, if_neg (by simp; omega), if_pos rfl, num_f 115 115 n rfl h0 h1]
  rfl
theorem of_hint (k : Nat) (n : Int) (h0 : 0 ≤ n) (h1 : n ≤ 99999999) : name_Of.f (k + 1) 2 n = some (strOfNums (numberedL 104 n)) := by
  unfold name_Of.f
  rw [if_neg (by omega)]
  rw [name_Of.j0, if_neg (by simp; omega), if_neg (by omega), if_pos rfl, num_f 104 104 n rfl h0 h1]
  rfl
theorem head_ok : souterrainlaw05_head.f 8 = some true := by
  unfold souterrainlaw05_head.f name_Parse.f name_Segments.f
  rw [parse42, p1, of_seg 7 42 (by omega) (by omega), segs_head]
  simp only [Option.bind_some]
  rw [if_pos str42]
  have e3 : name_Of.f 8 3 0 = some ⟨#[109]⟩ := rfl
  have e4 : name_Of.f 8 4 0 = some ⟨#[116]⟩ := rfl
  have e5 : name_Of.f 8 3 1 = some ⟨#[]⟩ := rfl
  have e6 : name_Of.f 8 1 100000000 = some ⟨#[]⟩ := rfl
  rw [e3, Option.bind_some, if_pos (by rw [ByteArray.toList_eq]), e4, Option.bind_some, if_pos (by rw [ByteArray.toList_eq]), e5, Option.bind_some, if_pos (by rw [ByteArray.toList_eq]), e6, Option.bind_some, if_pos (by rw [ByteArray.toList_eq])]
  rw [if_pos trivial, if_pos trivial, if_pos trivial, if_neg (by decide), if_pos (by decide), Option.bind_some]
  have e7 : souterrainref05_SameInts.f 8 [2, 7] [2, 7] = some true := by kernel_rfl
  rw [e7]
  rfl
theorem head_up (k : Nat) (hk : 8 ≤ k) : souterrainlaw05_head.f k = some true := up_ souterrainlaw05_head.mono head_ok k hk
theorem name_of (k : Nat) (a n : Int) : name_Of.f (k + 1) a n = some (strOfNums (ofL a n)) := by
  unfold ofL
  by_cases c1 : n < 0
  · rw [if_pos c1]
    unfold name_Of.f
    rw [if_pos c1, name_Of.j0, if_pos (by simpa using c1)]; rfl
  by_cases c2 : 99999999 < n
  · rw [if_neg c1, if_pos c2]
    unfold name_Of.f
    rw [if_neg c1, name_Of.j0, if_pos (by simpa using c2)]; rfl
  rw [if_neg c1, if_neg c2]
  by_cases c3 : a = 1
  · rw [if_pos c3, c3]; exact of_seg k n (by omega) (by omega)
  by_cases c4 : a = 2
  · rw [if_neg c3, if_pos c4, c4]; exact of_hint k n (by omega) (by omega)
  rw [if_neg c3, if_neg c4]
  have hj : name_Of.f (k + 1) a n = (if n = 0 then (if a = 3 then (some (⟨#[109]⟩ : ByteArray)) else (if a = 4 then (some (⟨#[116]⟩ : ByteArray)) else (some (⟨#[]⟩ : ByteArray)))) else (some (⟨#[]⟩ : ByteArray))) := by
    unfold name_Of.f
    rw [if_neg c1, name_Of.j0, if_neg (by simpa using c2), if_neg c3, if_neg c4]
  rw [hj]
  by_cases c5 : n = 0
  · rw [if_pos c5, if_pos c5]
    by_cases c6 : a = 3
    · rw [if_pos c6, if_pos c6]; rfl
    by_cases c7 : a = 4
    · rw [if_neg c6, if_neg c6, if_pos c7, if_pos c7]; rfl
    · rw [if_neg c6, if_neg c6, if_neg c7, if_neg c7]; rfl
  · rw [if_neg c5, if_neg c5]; rfl
theorem put1_cons (n x : Int) (xs : List Int) : put1 n (x :: xs) = if x < n then x :: put1 n xs else if x = n then x :: xs else n :: x :: xs := by
  by_cases c : x < n
  · rw [if_pos c]
    unfold put1
    rw [place, if_pos c]
    simp only [List.getElem?_cons_succ, List.take_succ_cons, List.drop_succ_cons, List.cons_append]
    split <;> rfl
  · rw [if_neg c]
    unfold put1
    rw [place, if_neg c]
    by_cases d : x = n
    · rw [if_pos d, if_pos (by simp [d])]
    · rw [if_neg d, if_neg (by simp [d])]; rfl
theorem put1_nil (n : Int) : put1 n [] = [n] := rfl
theorem put1_mem (n z : Int) : ∀ xs, z ∈ put1 n xs ↔ z = n ∨ z ∈ xs
  | [] => by simp [put1_nil]
  | x :: xs => by
    rw [put1_cons]
    split
    · rw [List.mem_cons, put1_mem n z xs, List.mem_cons]
      constructor
      · rintro (h | h | h)
        · exact .inr (.inl h)
        · exact .inl h
        · exact .inr (.inr h)
      · rintro (h | h | h)
        · exact .inr (.inl h)
        · exact .inl h
        · exact .inr (.inr h)
    · split
      · rename_i h; subst h; simp
      · simp
theorem put1_lt (n : Int) : ∀ xs, xs.Pairwise (· < ·) → (put1 n xs).Pairwise (· < ·)
  | [], _ => by simp [put1_nil]
  | x :: xs, h => by
    obtain ⟨h1, h2⟩ := List.pairwise_cons.1 h
    rw [put1_cons]
    split
    · rename_i c
      refine List.pairwise_cons.2 ⟨fun z hz => ?_, put1_lt n xs h2⟩
      rcases (put1_mem n z xs).1 hz with e | hz
      · omega
      · exact h1 z hz
    · split
      · exact h
      · refine List.pairwise_cons.2 ⟨fun z hz => ?_, h⟩
        rcases List.mem_cons.1 hz with e | hz
        · omega
        · have := h1 z hz; omega
theorem fold_ok : ∀ (l : List ByteArray) (out : List Int), out.Pairwise (· < ·) →
    (l.foldl (fun out s => if (parseF s).2.2 = true then (if (parseF s).1 = 1 then put1 (parseF s).2.1 out else out) else out) out).Pairwise (· < ·) ∧
    ∀ z, z ∈ (l.foldl (fun out s => if (parseF s).2.2 = true then (if (parseF s).1 = 1 then put1 (parseF s).2.1 out else out) else out) out) ↔ z ∈ out ∨ z ∈ l.filterMap segOf
  | [], out, h => ⟨h, by simp⟩
  | s :: l, out, h => by
    rw [List.foldl_cons, List.filterMap_cons]
    unfold segOf
    by_cases c1 : (parseF s).2.2 = true
    · rw [if_pos c1, if_pos c1]
      by_cases c2 : (parseF s).1 = 1
      · rw [if_pos c2, if_pos c2]
        obtain ⟨g1, g2⟩ := fold_ok l _ (put1_lt (parseF s).2.1 out h)
        refine ⟨g1, fun z => ?_⟩
        rw [g2, put1_mem]
        dsimp only
        rw [List.mem_cons]
        constructor
        · rintro ((h | h) | h)
          · exact .inr (.inl h)
          · exact .inl h
          · exact .inr (.inr h)
        · rintro (h | h | h)
          · exact .inl (.inr h)
          · exact .inl (.inl h)
          · exact .inr h
      · rw [if_neg c2, if_neg c2]
        exact fold_ok l out h
    · rw [if_neg c1, if_neg c1]
      exact fold_ok l out h
theorem rsegs_eq (l : List ByteArray) : rsegsF parseF l = segsF l := by
  have hsort : ∀ l : List Int, (l.mergeSort fun x y => decide (x ≤ y)).Pairwise (· ≤ ·) := fun l => by
    have := List.pairwise_mergeSort (le := fun x y : Int => decide (x ≤ y)) (fun a b c h1 h2 => by simp at *; omega) (fun a b => by simp; omega) l
    exact this.imp (by simp)
  obtain ⟨g1, g2⟩ := fold_ok l [] List.Pairwise.nil
  refine lt_unique _ _ g1 (compact_lt (hsort _)) fun z => ?_
  unfold rsegsF segsF
  rw [g2, compact_mem, List.mem_mergeSort]
  simp
theorem same_l0 (l : List Int) (hl : l.length < 1000000) : ∀ (m k i : Nat), i + m = l.length → m < k → souterrainref05_SameInts.l0 k l l (i : Int) = some true
  | m, 0, i, _, hk => by omega
  | 0, k + 1, i, hi, _ => by
    unfold souterrainref05_SameInts.l0
    rw [if_neg (by omega)]
  | m + 1, k + 1, i, hi, hk => by
    unfold souterrainref05_SameInts.l0
    rw [if_pos (by omega), if_pos (by omega), if_pos (by omega), if_pos rfl, IntWalk.wrap64_in _ ⟨by omega, by omega⟩, show (i : Int) + 1 = ((i + 1 : Nat) : Int) by omega]
    exact same_l0 l hl m k (i + 1) (by omega) (by omega)
theorem same (k : Nat) (l : List Int) (hl : l.length < 1000000) (hk : l.length < k) : souterrainref05_SameInts.f k l l = some true := by
  unfold souterrainref05_SameInts.f
  rw [if_pos rfl]
  exact same_l0 l hl l.length k 0 (by omega) hk
theorem segs_len (l : List ByteArray) : (segsF l).length ≤ l.length := by
  rw [← rsegs_eq]; exact rsegsF_len parseF l
theorem last (k : Nat) (a0 a1 : Int) (a2 : ByteArray) (l3 : List ByteArray) (b : Bool) (hb : b = true ∨ ¬ l3.length > 300) : souterrainlaw05_NameTells.j2 (k + 400) a0 a1 a2 l3 true b = some true := by
  rw [souterrainlaw05_NameTells.j2]
  by_cases c : b = true
  · rw [if_pos c]
  have hl : l3.length ≤ 300 := by rcases hb with h | h; exact absurd h c; omega
  rw [if_neg c]
  unfold name_Parse.f name_Segments.f souterrainref05_Segments.f
  rw [Option.bind_some, show k + 399 = k + 359 + 40 by omega, parse_f, Option.bind_some, if_pos rfl, show k + 359 + 40 = k + 398 + 1 by omega, name_of, Option.bind_some, show k + 398 + 1 = k + 389 + 10 by omega, of_f, Option.bind_some,
    if_pos rfl, if_pos rfl, if_pos rfl, if_pos (by simp), if_pos (by omega), if_pos (by omega), Option.bind_some, Option.bind_some, rsegs_eq, same _ _ (by have := segs_len l3; omega) (by have := segs_len l3; omega), Option.bind_some]
theorem tail (k : Nat) (a0 a1 : Int) (a2 : ByteArray) (l3 : List ByteArray) (x : Int) : souterrainlaw05_NameTells.j1 (k + 401) a0 a1 a2 l3 true x = some true := by
  rw [souterrainlaw05_NameTells.j1]
  split
  · exact last k a0 a1 a2 l3 true (.inl rfl)
  · refine last k a0 a1 a2 l3 _ ?_
    by_cases c : (l3.length : Int) > 300
    · exact .inl (by simpa using c)
    · exact .inr (by omega)
theorem loop (K : Nat) (a0 a1 : Int) (a2 : ByteArray) (l3 : List ByteArray) (hl : l3.length ≤ 9223372036854775807) : ∀ (m i : Nat) (x : Int), i + m = l3.length → 0 ≤ x → souterrainlaw05_NameTells.l0 (K + 401 + m + 1) a0 a1 a2 l3 true x (i : Int) = some true
  | 0, i, x, hi, hx => by
    rw [souterrainlaw05_NameTells.l0, if_neg (by omega)]
    exact tail K a0 a1 a2 l3 x
  | m + 1, i, x, hi, hx => by
    rw [souterrainlaw05_NameTells.l0, if_pos (by omega)]
    by_cases c : x < 9000
    · rw [if_pos c, if_pos (by omega), IntWalk.wrap64_in ((i : Int) + 1) ⟨by omega, by omega⟩, show (i : Int) + 1 = ((i + 1 : Nat) : Int) by omega]
      have hm : 0 ≤ mn ((rdOf ByteArray.empty l3 (i : Int)).size : Int) 9000 ∧ mn ((rdOf ByteArray.empty l3 (i : Int)).size : Int) 9000 ≤ 9000 := by
        unfold mn; split <;> omega
      rw [IntWalk.wrap64_in (x + _) ⟨by omega, by omega⟩]
      exact loop K a0 a1 a2 l3 hl m (i + 1) _ (by omega) (by omega)
    · rw [if_neg c, show K + 401 + (m + 1) = (K + (m + 1)) + 401 by omega]
      exact tail _ a0 a1 a2 l3 x
theorem NameTells (a0 a1 : Int) (a2 : ByteArray) (l3 : List ByteArray) (hl : l3.length ≤ 9223372036854775807) : ∃ k, souterrainlaw05_NameTells.f k a0 a1 a2 l3 = some true := by
  refine ⟨401 + l3.length + 1, ?_⟩
  unfold souterrainlaw05_NameTells.f
  rw [head_up _ (by omega), Option.bind_some]
  have := loop 0 a0 a1 a2 l3 hl l3.length 0 (a2.size : Int) (by omega) (by omega)
  rw [show 401 + l3.length + 1 = 0 + 401 + l3.length + 1 by omega]
  exact this
end Go.Proofs.Ytgolccldopofbaa.Pure.NameTells_
