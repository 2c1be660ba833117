/-
  Layer 5, plain: names rise as their numbers do.
-/
import Derived.Test.YtgolccldopofbaaNames
namespace Go.Proofs.Ytgolccldopofbaa
set_option linter.unusedVariables false
set_option linter.unusedSimpArgs false
open Go.RowKit Go.Proofs.YtgolccldopofbaaW.PrintWords

def lexI : List Int → List Int → Bool
  | _, [] => false
  | [], _ :: _ => true
  | a :: x, b :: y => decide (a < b) || (decide (a = b) && lexI x y)
theorem u8_lt {x y : Int} (hx : 0 ≤ x ∧ x ≤ 255) (hy : 0 ≤ y ∧ y ≤ 255) : decide (UInt8.ofNat x.toNat < UInt8.ofNat y.toNat) = decide (x < y) := by
  rw [decide_eq_decide, UInt8.lt_iff_toNat_lt, UInt8.toNat_ofNat', UInt8.toNat_ofNat']
  omega
theorem u8_eq {x y : Int} (hx : 0 ≤ x ∧ x ≤ 255) (hy : 0 ≤ y ∧ y ≤ 255) : (UInt8.ofNat x.toNat == UInt8.ofNat y.toNat) = decide (x = y) := by
  rw [Bool.eq_iff_iff, beq_iff_eq, decide_eq_true_eq, ← UInt8.toNat_inj, UInt8.toNat_ofNat', UInt8.toNat_ofNat']
  omega
theorem less_map : ∀ (xs ys : List Int), (∀ x ∈ xs, 0 ≤ x ∧ x ≤ 255) → (∀ x ∈ ys, 0 ≤ x ∧ x ≤ 255) → Op.bytesLess (xs.map fun n => UInt8.ofNat n.toNat) (ys.map fun n => UInt8.ofNat n.toNat) = lexI xs ys
  | xs, [], _, _ => by cases xs <;> rfl
  | [], _ :: _, _, _ => rfl
  | a :: x, b :: y, hx, hy => by
    have ih := less_map x y (fun z hz => hx z (List.mem_cons_of_mem _ hz)) (fun z hz => hy z (List.mem_cons_of_mem _ hz))
    simp only [List.map_cons, Op.bytesLess, lexI]
    rw [ih, u8_lt (hx a List.mem_cons_self) (hy b List.mem_cons_self), u8_eq (hx a List.mem_cons_self) (hy b List.mem_cons_self)]
theorem str_toList (xs : List Int) : (strOfNums xs).toList = xs.map fun n => UInt8.ofNat n.toNat := by rw [ByteArray.toList_eq, strOfNums_data]
theorem lex2 {x y u v B : Int} {P : Prop} (hu : 0 ≤ u) (hu2 : u < B) (hv : 0 ≤ v) (hv2 : v < B) (hP : P ↔ u < v) : (x < y ∨ (x = y ∧ P)) ↔ B * x + u < B * y + v := by
  rw [hP]
  constructor
  · rintro (h | ⟨rfl, h⟩)
    · have : B * (x + 1) ≤ B * y := Int.mul_le_mul_of_nonneg_left (by omega) (by omega)
      rw [Int.mul_add, Int.mul_one] at this
      omega
    · omega
  · intro h
    by_cases hxy : x < y
    · exact .inl hxy
    · by_cases he : x = y
      · subst he; exact .inr ⟨rfl, by omega⟩
      · have : B * (y + 1) ≤ B * x := Int.mul_le_mul_of_nonneg_left (by omega) (by omega)
        rw [Int.mul_add, Int.mul_one] at this
        omega
theorem lex8 {a0 a1 a2 a3 a4 a5 a6 a7 b0 b1 b2 b3 b4 b5 b6 b7 : Int} (ha0 : 0 ≤ a0 ∧ a0 < 10) (hb0 : 0 ≤ b0 ∧ b0 < 10) (ha1 : 0 ≤ a1 ∧ a1 < 10) (hb1 : 0 ≤ b1 ∧ b1 < 10) (ha2 : 0 ≤ a2 ∧ a2 < 10) (hb2 : 0 ≤ b2 ∧ b2 < 10) (ha3 : 0 ≤ a3 ∧ a3 < 10) (hb3 : 0 ≤ b3 ∧ b3 < 10) (ha4 : 0 ≤ a4 ∧ a4 < 10) (hb4 : 0 ≤ b4 ∧ b4 < 10) (ha5 : 0 ≤ a5 ∧ a5 < 10) (hb5 : 0 ≤ b5 ∧ b5 < 10) (ha6 : 0 ≤ a6 ∧ a6 < 10) (hb6 : 0 ≤ b6 ∧ b6 < 10) :
    (a7 < b7 ∨ (a7 = b7 ∧ (a6 < b6 ∨ (a6 = b6 ∧ (a5 < b5 ∨ (a5 = b5 ∧ (a4 < b4 ∨ (a4 = b4 ∧ (a3 < b3 ∨ (a3 = b3 ∧ (a2 < b2 ∨ (a2 = b2 ∧ (a1 < b1 ∨ (a1 = b1 ∧ (a0 < b0))))))))))))))) ↔ 10000000 * a7 + (1000000 * a6 + (100000 * a5 + (10000 * a4 + (1000 * a3 + (100 * a2 + (10 * a1 + a0)))))) < 10000000 * b7 + (1000000 * b6 + (100000 * b5 + (10000 * b4 + (1000 * b3 + (100 * b2 + (10 * b1 + b0)))))) := by
  obtain ⟨pa0, qa0⟩ := ha0
  obtain ⟨pb0, qb0⟩ := hb0
  obtain ⟨pa1, qa1⟩ := ha1
  obtain ⟨pb1, qb1⟩ := hb1
  obtain ⟨pa2, qa2⟩ := ha2
  obtain ⟨pb2, qb2⟩ := hb2
  obtain ⟨pa3, qa3⟩ := ha3
  obtain ⟨pb3, qb3⟩ := hb3
  obtain ⟨pa4, qa4⟩ := ha4
  obtain ⟨pb4, qb4⟩ := hb4
  obtain ⟨pa5, qa5⟩ := ha5
  obtain ⟨pb5, qb5⟩ := hb5
  obtain ⟨pa6, qa6⟩ := ha6
  obtain ⟨pb6, qb6⟩ := hb6
  refine lex2 (by omega) (by omega) (by omega) (by omega) ?_
  refine lex2 (by omega) (by omega) (by omega) (by omega) ?_
  refine lex2 (by omega) (by omega) (by omega) (by omega) ?_
  refine lex2 (by omega) (by omega) (by omega) (by omega) ?_
  refine lex2 (by omega) (by omega) (by omega) (by omega) ?_
  refine lex2 (by omega) (by omega) (by omega) (by omega) ?_
  refine lex2 (by omega) (by omega) (by omega) (by omega) ?_
  exact Iff.rfl
theorem numbered_lt (c a b : Int) (hc : 0 ≤ c ∧ c ≤ 255) (ha : 0 ≤ a) (ha2 : a ≤ 99999999) (hb : 0 ≤ b) (hb2 : b ≤ 99999999) :
    Op.bytesLess (strOfNums (numberedL c a)).toList (strOfNums (numberedL c b)).toList = decide (a < b) := by
  rw [str_toList, str_toList, less_map _ _ (bytes_range c a hc.1 hc.2 ha) (bytes_range c b hc.1 hc.2 hb), numberedL_eq, numberedL_eq]
  simp only [lexI]
  rw [Bool.eq_iff_iff]
  simp only [Bool.or_eq_true, Bool.and_eq_true, decide_eq_true_eq, Bool.and_false, Bool.or_false, Bool.false_eq_true, and_false, or_false, Int.lt_irrefl, false_or, true_and]
  have ea : a = 10000000 * (a / 10000000 % 10) + (1000000 * (a / 1000000 % 10) + (100000 * (a / 100000 % 10) + (10000 * (a / 10000 % 10) + (1000 * (a / 1000 % 10) + (100 * (a / 100 % 10) + (10 * (a / 10 % 10) + a % 10)))))) := by omega
  have eb : b = 10000000 * (b / 10000000 % 10) + (1000000 * (b / 1000000 % 10) + (100000 * (b / 100000 % 10) + (10000 * (b / 10000 % 10) + (1000 * (b / 1000 % 10) + (100 * (b / 100 % 10) + (10 * (b / 10 % 10) + b % 10)))))) := by omega
  have s : ∀ x y : Int, (48 + x < 48 + y ↔ x < y) ∧ (48 + x = 48 + y ↔ x = y) := fun x y => ⟨by omega, by omega⟩
  simp only [(s _ _).1, (s _ _).2]
  have r : ∀ x : Int, 0 ≤ x % 10 ∧ x % 10 < 10 := fun x => ⟨by omega, by omega⟩
  refine (lex8 (r _) (r _) (r _) (r _) (r _) (r _) (r _) (r _) (r _) (r _) (r _) (r _) (r _) (r _)).trans ?_
  rw [← ea, ← eb]
end Go.Proofs.Ytgolccldopofbaa
