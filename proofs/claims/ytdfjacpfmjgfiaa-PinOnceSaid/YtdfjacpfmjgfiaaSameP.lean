/-
  Layer 17: whether two rows of whole numbers are the same.
-/
import Derived.Test.YtdfjacpfmjgfiaaSame
import Derived.Test.YtdfjacpfmjgfiaaTells
namespace Go.Proofs.Ytdfjacpfmjgfiaa
set_option linter.unusedVariables false
set_option linter.unusedSimpArgs false
open Go.Shelf Go.RowKit Go.Proofs.YtdfjacpfmjgfiaaW.PrintWords Go.Proofs.YtdfjacpfmjgfiaaW.PrintMore
theorem same_l0 (xs ys : List Int) (he : xs.length = ys.length) (hl : xs.length ≤ 4611686018427387904) : ∀ (d i k : Nat), i + d = xs.length → d < k → PPinPlays.souterrainref05_SameInts.l0 k xs ys i = some (decide (xs.drop i = ys.drop i))
  | 0, i, k, h, hk => by
    obtain ⟨k, rfl⟩ : ∃ m, k = m + 1 := ⟨k - 1, by omega⟩
    simp only [PPinPlays.souterrainref05_SameInts.l0]
    rw [if_neg (by omega), List.drop_eq_nil_of_le (by omega), List.drop_eq_nil_of_le (by omega)]
    rfl
  | d + 1, i, k, h, hk => by
    obtain ⟨k, rfl⟩ : ∃ m, k = m + 1 := ⟨k - 1, by omega⟩
    have h1 : i < xs.length := by omega
    have h2 : i < ys.length := by omega
    have r1 : rd xs (i : Int) = xs[i] := by unfold rd; simp [List.getD_eq_getElem?_getD, List.getElem?_eq_getElem h1]
    have r2 : rd ys (i : Int) = ys[i] := by unfold rd; simp [List.getD_eq_getElem?_getD, List.getElem?_eq_getElem h2]
    simp only [PPinPlays.souterrainref05_SameInts.l0]
    rw [if_pos (by omega), if_pos (by omega), if_pos (by omega), r1, r2, List.drop_eq_getElem_cons h1, List.drop_eq_getElem_cons h2]
    by_cases he2 : xs[i] = ys[i]
    · rw [if_pos he2]
      have hw : wrap64 ((i : Int) + 1) = ((i + 1 : Nat) : Int) := by rw [IntWalk.wrap64_in _ ⟨by omega, by omega⟩]; rfl
      rw [hw, same_l0 xs ys he hl d (i + 1) k (by omega) (by omega), he2]
      exact congrArg some (decide_eq_decide.2 ⟨fun h => by rw [h], fun h => (List.cons.inj h).2⟩)
    · rw [if_neg he2]
      exact congrArg some (decide_eq_false fun h => he2 (List.cons.inj h).1).symm
theorem same_f (xs ys : List Int) (hl : xs.length ≤ 4611686018427387904) : PPinPlays.souterrainref05_SameInts.f (xs.length + 1) xs ys = some (decide (xs = ys)) := by
  unfold PPinPlays.souterrainref05_SameInts.f
  by_cases he : xs.length = ys.length
  · rw [if_pos (by omega)]
    have := same_l0 xs ys he hl xs.length 0 (xs.length + 1) (by omega) (by omega)
    simpa using this
  · rw [if_neg (by omega)]
    have : xs ≠ ys := fun e => he (by rw [e])
    simp [this]
theorem C_of_i64 {w : World} {A : Option Addr} {n : Nat} {xs : List Int} (h : ReadsInt w .i64 A n xs) : Kd.C (Kd.int .i64) w A n xs := by
  refine ⟨h.1, h.2.1, fun hn => ?_⟩
  obtain ⟨ad, e, hc⟩ := h.2.2 hn
  refine ⟨ad, e, fun j p hp => ⟨[.int .i64 p], rfl, rfl, fun t u hu => ?_⟩⟩
  have hj : j < xs.length := by
    rcases Nat.lt_or_ge j xs.length with h | h
    · exact h
    · rw [List.getElem?_eq_none h] at hp; cases hp
  cases t with
  | zero =>
    obtain rfl := Option.some.inj hu
    have := hc j (by rw [← h.1]; exact hj)
    rw [List.getD_eq_getElem?_getD, hp] at this
    rw [show j * (Kd.int .i64).sz + 0 = j by show j * 1 + 0 = j; omega]
    exact this
  | succ t => cases hu
/-- SameInts of two rows. -/
theorem same_calls {W : World} {A1 A2 : Option Addr} {n1 n2 c1 c2 : Nat} {xs ys : List Int} (h1 : ReadsInt W .i64 A1 n1 xs) (h2 : ReadsInt W .i64 A2 n2 ys) (k1 : n1 ≤ c1) (k2 : n2 ≤ c2) (hl : n1 ≤ 1000000) :
    Calls Try.prog 23 #[.slice A1 n1 c1, .slice A2 n2 c2] W fun e w' => e = .returned (.bool (decide (xs = ys))) ∧ ∃ q, w' = W.drewN q := by
  obtain rfl := h1.1
  obtain rfl := h2.1
  refine (PPinPlays.souterrainref05_SameInts.calls (xs.length + 1) A1 c1 xs A2 c2 ys _ W (C_of_i64 h1) k1 (C_of_i64 h2) k2 (same_f xs ys (by omega))).mono ?_
  rintro e w' ⟨rfl, hd⟩
  exact ⟨rfl, hd.out⟩
end Go.Proofs.Ytdfjacpfmjgfiaa
