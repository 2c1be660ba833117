/-
  Layer 5, plain: names, digit by digit.
-/
import Derived.Test.YtgolccldopofbaaSegs
namespace Go.Proofs.Ytgolccldopofbaa
set_option linter.unusedVariables false
set_option linter.unusedSimpArgs false
open Go.RowKit Go.Proofs.YtgolccldopofbaaW.PrintWords

theorem numberedL_eq (c n : Int) : numberedL c n = [c, 48 + n / 10000000 % 10, 48 + n / 1000000 % 10, 48 + n / 100000 % 10, 48 + n / 10000 % 10, 48 + n / 1000 % 10, 48 + n / 100 % 10, 48 + n / 10 % 10, 48 + n % 10] := by
  have e : ∀ a b : Int, 0 ≤ a → 0 ≤ b → n / a / b = n / (a * b) := fun a b ha hb => by rw [Int.ediv_ediv, if_neg (by omega), Int.sub_zero]
  simp [numberedL, fillD, List.replicate, e]
def ofL (kind n : Int) : List Int :=
  if n < 0 then [] else if 99999999 < n then [] else if kind = 1 then numberedL 115 n else if kind = 2 then numberedL 104 n else if n = 0 then (if kind = 3 then [109] else if kind = 4 then [116] else []) else []
theorem bytes_range (c n : Int) (hc : 0 ≤ c) (hc2 : c ≤ 255) (h0 : 0 ≤ n) : ∀ x ∈ numberedL c n, 0 ≤ x ∧ x ≤ 255 := by
  rw [numberedL_eq]
  intro x hx
  simp only [List.mem_cons, List.mem_nil_iff, or_false] at hx
  omega
theorem bytesOf_str {xs : List Int} (h : ∀ x ∈ xs, 0 ≤ x ∧ x ≤ 255) : bytesOf (strOfNums xs) = xs := by
  unfold bytesOf
  rw [strOfNums_data, List.map_map]
  conv => rhs; rw [← List.map_id xs]
  refine List.map_congr_left fun x hx => ?_
  have := h x hx
  simp only [Function.comp, id]
  rw [UInt8.toNat_ofNat']
  omega
theorem bt_str {xs : List Int} (h : ∀ x ∈ xs, 0 ≤ x ∧ x ≤ 255) (i : Int) : bt (strOfNums xs) i = rd xs i := by
  rw [← rd_bytesOf, bytesOf_str h]
theorem rest_str (c : Int) (ds : List Int) : rest1 (strOfNums (c :: ds)) = strOfNums ds := by
  apply ByteArray.ext
  apply Array.toList_inj.1
  unfold rest1
  simp [ByteArray.data_extract, strOfNums, ByteArray.size]
  exact List.take_of_length_le (by simp)
theorem first_str (c : Int) (ds : List Int) : (first1 (strOfNums (c :: ds))).toList = [UInt8.ofNat c.toNat] := by
  rw [ByteArray.toList_eq]
  unfold first1
  simp [ByteArray.data_extract, strOfNums]
theorem digits_value (n : Int) (h0 : 0 ≤ n) (h1 : n ≤ 99999999) (ds : List Int) (hd : ds = [48 + n / 10000000 % 10, 48 + n / 1000000 % 10, 48 + n / 100000 % 10, 48 + n / 10000 % 10, 48 + n / 1000 % 10, 48 + n / 100 % 10, 48 + n / 10 % 10, 48 + n % 10]) : numberF (strOfNums ds) = (n, true) := by
  have hb : ∀ x ∈ ds, 0 ≤ x ∧ x ≤ 255 := by
    subst hd
    intro x hx
    simp only [List.mem_cons, List.mem_nil_iff, or_false] at hx
    omega
  have hbt := bt_str hb
  unfold numberF
  rw [if_pos (by rw [strOfNums_size, hd]; rfl)]
  have e0 : bt (strOfNums ds) 0 = 48 + n / 10000000 % 10 := by rw [hbt, hd]; rfl
  have e1 : bt (strOfNums ds) 1 = 48 + n / 1000000 % 10 := by rw [hbt, hd]; rfl
  have e2 : bt (strOfNums ds) 2 = 48 + n / 100000 % 10 := by rw [hbt, hd]; rfl
  have e3 : bt (strOfNums ds) 3 = 48 + n / 10000 % 10 := by rw [hbt, hd]; rfl
  have e4 : bt (strOfNums ds) 4 = 48 + n / 1000 % 10 := by rw [hbt, hd]; rfl
  have e5 : bt (strOfNums ds) 5 = 48 + n / 100 % 10 := by rw [hbt, hd]; rfl
  have e6 : bt (strOfNums ds) 6 = 48 + n / 10 % 10 := by rw [hbt, hd]; rfl
  have e7 : bt (strOfNums ds) 7 = 48 + n % 10 := by rw [hbt, hd]; rfl
  simp only [numAt]
  rw [show ((0 : Nat) : Int) = 0 from rfl, show ((0 + 1 : Nat) : Int) = 1 from rfl, show ((0 + 1 + 1 : Nat) : Int) = 2 from rfl, show ((0 + 1 + 1 + 1 : Nat) : Int) = 3 from rfl, show ((0 + 1 + 1 + 1 + 1 : Nat) : Int) = 4 from rfl, show ((0 + 1 + 1 + 1 + 1 + 1 : Nat) : Int) = 5 from rfl, show ((0 + 1 + 1 + 1 + 1 + 1 + 1 : Nat) : Int) = 6 from rfl, show ((0 + 1 + 1 + 1 + 1 + 1 + 1 + 1 : Nat) : Int) = 7 from rfl]
  rw [e0, e1, e2, e3, e4, e5, e6, e7]
  repeat rw [if_neg (by omega)]
  congr 1
  omega
theorem parse_numbered (c kind n : Int) (hc : (c = 115 ∧ kind = 1) ∨ (c = 104 ∧ kind = 2)) (h0 : 0 ≤ n) (h1 : n ≤ 99999999) : parseF (strOfNums (numberedL c n)) = (kind, n, true) := by
  rw [numberedL_eq]
  have hn := digits_value n h0 h1 _ rfl
  have hl : (strOfNums [c, 48 + n / 10000000 % 10, 48 + n / 1000000 % 10, 48 + n / 100000 % 10, 48 + n / 10000 % 10, 48 + n / 1000 % 10, 48 + n / 100 % 10, 48 + n / 10 % 10, 48 + n % 10]).toList.length = 9 := by
    rw [ByteArray.toList_eq, strOfNums_data]; rfl
  unfold parseF
  rw [rest_str, hn, first_str]
  rw [if_neg (by intro h; rw [List.isEmpty_iff] at h; rw [h] at hl; cases hl), if_neg (by intro h; rw [beq_iff_eq] at h; rw [h] at hl; cases hl), if_neg (by intro h; rw [beq_iff_eq] at h; rw [h] at hl; cases hl), if_pos rfl]
  rcases hc with ⟨rfl, rfl⟩ | ⟨rfl, rfl⟩
  · rw [if_pos (by decide)]
  · rw [if_neg (by decide), if_pos (by decide)]
end Go.Proofs.Ytgolccldopofbaa
