/-
  Layer 5: what a name tells.
-/
import Derived.Test.YtgolccldopofbaaNumbered
namespace Go.Proofs.Ytgolccldopofbaa
set_option linter.unusedVariables false
set_option linter.unusedSimpArgs false
open Go.RowKit Go.Proofs.YtgolccldopofbaaW.PrintWords

def rest1 (s : ByteArray) : ByteArray := s.extract 1 s.size
def first1 (s : ByteArray) : ByteArray := s.extract 0 1
def parseF (s : ByteArray) : Int × Int × Bool :=
  if s.toList.isEmpty = true then (0, 0, false) else if (s.toList == [109]) = true then (3, 0, true) else if (s.toList == [116]) = true then (4, 0, true) else
  if (numberF (rest1 s)).2 = true then (if ((first1 s).toList == [115]) = true then (1, (numberF (rest1 s)).1, true) else if ((first1 s).toList == [104]) = true then (2, (numberF (rest1 s)).1, true) else (0, 0, false)) else (0, 0, false)

theorem empty_toList {s : ByteArray} (h : s.size = 0) : s.toList = [] := by
  have : s = ⟨#[]⟩ := by
    obtain ⟨d⟩ := s
    congr 1
    exact Array.eq_empty_of_size_eq_zero h
  rw [this, ByteArray.toList_eq]

set_option maxRecDepth 100000 in
set_option maxHeartbeats 1000000 in
theorem parse_calls (s : ByteArray) (w : World) :
    Calls Try.prog 9 #[.string s] w fun e w' => e = .returned (.tuple #[.int .i64 (parseF s).1, .int .i64 (parseF s).2.1, .bool (parseF s).2.2]) ∧ Below w.heap.size w w' := by
  have H := Aside0.mk (number_calls (rest1 s) w)
  go_enter Try.func9, Try.ntmps9
  go_wp2_with (go_at_call 16; refine H.out.mono ?_; rintro e w1 ⟨rfl, hb1⟩)
  · have h1 : s.toList.isEmpty = true := by assumption
    go_ret3
    rw [parseF, if_pos h1]
    exact ⟨rfl, Below.refl _ _⟩
  · have h1 : s.toList.isEmpty = false := by assumption
    have h2 : (s.toList == [109]) = true := by assumption
    go_ret3
    rw [parseF, if_neg (by rw [h1]; decide), if_pos h2]
    exact ⟨rfl, Below.refl _ _⟩
  · have h1 : s.toList.isEmpty = false := by assumption
    have h2 : (s.toList == [109]) = false := by assumption
    have h3 : (s.toList == [116]) = true := by assumption
    go_ret3
    rw [parseF, if_neg (by rw [h1]; decide), if_neg (by rw [h2]; decide), if_pos h3]
    exact ⟨rfl, Below.refl _ _⟩
  · have h1 : s.toList.isEmpty = false := by assumption
    have h2 : (s.toList == [109]) = false := by assumption
    have h3 : (s.toList == [116]) = false := by assumption
    have h4 : (numberF (rest1 s)).snd = true := by assumption
    have h5 : ((s.extract 0 1).toList == [115]) = true := by assumption
    go_ret3
    rw [parseF, if_neg (by rw [h1]; decide), if_neg (by rw [h2]; decide), if_neg (by rw [h3]; decide), if_pos h4, if_pos (by unfold first1; exact h5)]
    exact ⟨rfl, hb1⟩
  · have h1 : s.toList.isEmpty = false := by assumption
    have h2 : (s.toList == [109]) = false := by assumption
    have h3 : (s.toList == [116]) = false := by assumption
    have h4 : (numberF (rest1 s)).snd = true := by assumption
    have h5 : ((s.extract 0 1).toList == [115]) = false := by assumption
    have h6 : ((s.extract 0 1).toList == [104]) = true := by assumption
    go_ret3
    rw [parseF, if_neg (by rw [h1]; decide), if_neg (by rw [h2]; decide), if_neg (by rw [h3]; decide), if_pos h4, if_neg (by unfold first1; rw [h5]; decide), if_pos (by unfold first1; exact h6)]
    exact ⟨rfl, hb1⟩
  · have h1 : s.toList.isEmpty = false := by assumption
    have h2 : (s.toList == [109]) = false := by assumption
    have h3 : (s.toList == [116]) = false := by assumption
    have h4 : (numberF (rest1 s)).snd = true := by assumption
    have h5 : ((s.extract 0 1).toList == [115]) = false := by assumption
    have h6 : ((s.extract 0 1).toList == [104]) = false := by assumption
    go_ret3
    rw [parseF, if_neg (by rw [h1]; decide), if_neg (by rw [h2]; decide), if_neg (by rw [h3]; decide), if_pos h4, if_neg (by unfold first1; rw [h5]; decide), if_neg (by unfold first1; rw [h6]; decide)]
    exact ⟨rfl, hb1⟩
  · have h1 : s.toList.isEmpty = false := by assumption
    have h2 : (s.toList == [109]) = false := by assumption
    have h3 : (s.toList == [116]) = false := by assumption
    have h4 : ¬(numberF (rest1 s)).snd = true := by assumption
    go_ret3
    rw [parseF, if_neg (by rw [h1]; decide), if_neg (by rw [h2]; decide), if_neg (by rw [h3]; decide), if_neg h4]
    exact ⟨rfl, hb1⟩
  · exfalso
    have h1 : s.toList.isEmpty = false := by assumption
    have h2 : (s.size : Int) < 1 := by assumption
    have h0 : s.size = 0 := by omega
    rw [empty_toList h0] at h1
    cases h1
end Go.Proofs.Ytgolccldopofbaa
