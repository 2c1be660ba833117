import Derived.Test.YtgolccldopofbaaPNameBackx1
import Derived.Test.YtgolccldopofbaaBack
import Derived.IntWalk
namespace Go.Proofs.Ytgolccldopofbaa.Pure.NameBack_
set_option linter.unusedVariables false
set_option linter.unusedSimpArgs false
open Go.RowKit Go.Proofs.Ytgolccldopofbaa Go.Proofs.Ytgolccldopofbaa.PNameBack Go.Proofs.YtgolccldopofbaaW.PrintWords Go.Proofs.YtgolccldopofbaaW.PrintLast

theorem up {α : Type} {f : Nat → Option α} (hm : ∀ k, LeO (f k) (f (k + 1))) {r : α} {k : Nat} (h : f k = some r) : ∀ j, k ≤ j → f j = some r := by
  intro j hj
  induction j with
  | zero => rw [show k = 0 by omega] at h; exact h
  | succ j ih =>
    by_cases e : k = j + 1
    · subst e; exact h
    · exact hm j r (ih (by omega))
theorem num_f (b : UInt8) (c n : Int) (hc : bt ⟨#[b]⟩ 0 = c) (h0 : 0 ≤ n) (h1 : n ≤ 99999999) : name_numbered.f ⟨#[b]⟩ n = some (strOfNums (numberedL c n)) := by
  unfold name_numbered.f
  rw [if_pos (by rfl), if_pos h0, if_pos h1, hc]
theorem of_seg (k : Nat) (n : Int) (h0 : 0 ≤ n) (h1 : n ≤ 99999999) : name_Of.f (k + 1) 1 n = some (strOfNums (numberedL 115 n)) := by
  unfold name_Of.f
  rw [if_neg (by omega)]
  rw [name_Of.j0, if_neg (by simp; omega), if_pos rfl, num_f 115 115 n rfl h0 h1]
  rfl
theorem of_hint (k : Nat) (n : Int) (h0 : 0 ≤ n) (h1 : n ≤ 99999999) : name_Of.f (k + 1) 2 n = some (strOfNums (numberedL 104 n)) := by
  unfold name_Of.f
  rw [if_neg (by omega)]
  rw [name_Of.j0, if_neg (by simp; omega), if_neg (by omega), if_pos rfl, num_f 104 104 n rfl h0 h1]
  rfl
theorem of_man (k : Nat) : name_Of.f (k + 1) 3 0 = some ⟨#[109]⟩ := rfl
theorem head_ok : souterrainlaw05_head.f 8 = some true := by
  unfold souterrainlaw05_head.f name_Parse.f name_Segments.f
  rw [parse42, p1, of_seg 7 42 (by omega) (by omega), segs_head]
  simp only [Option.bind_some]
  rw [if_pos str42]
  have e3 : name_Of.f 8 3 0 = some ⟨#[109]⟩ := rfl
  have e4 : name_Of.f 8 4 0 = some ⟨#[116]⟩ := rfl
  have e5 : name_Of.f 8 3 1 = some ⟨#[]⟩ := rfl
  have e6 : name_Of.f 8 1 100000000 = some ⟨#[]⟩ := rfl
  rw [e3, Option.bind_some, if_pos (by rw [ByteArray.toList_eq]), e4, Option.bind_some, if_pos (by rw [ByteArray.toList_eq]), e5, Option.bind_some, if_pos (by rw [ByteArray.toList_eq]), e6, Option.bind_some, if_pos (by rw [ByteArray.toList_eq])]
  rw [if_pos trivial, if_pos trivial, if_pos trivial, if_neg (by decide), if_pos (by decide), Option.bind_some]
  have e7 : souterrainref05_SameInts.f 8 [2, 7] [2, 7] = some true := by kernel_rfl
  rw [e7]
  rfl
theorem head_up (k : Nat) (hk : 8 ≤ k) : souterrainlaw05_head.f k = some true := up souterrainlaw05_head.mono head_ok k hk
theorem parse_empty : parseF ⟨#[]⟩ = (0, 0, false) := by
  rw [parseF, if_pos (by rw [ByteArray.toList_eq]; rfl)]
theorem parse_t : parseF ⟨#[116]⟩ = (4, 0, true) := by
  unfold parseF
  rw [ByteArray.toList_eq]
  rfl
theorem numbered_ne (c n : Int) : (strOfNums (numberedL c n)).toList ≠ [] := by
  rw [str_toList, numberedL_eq]
  intro h
  cases h
/-- What Of tells, and what Parse makes of it. -/
theorem of_spec (k : Nat) (a b : Int) : ∃ x, name_Of.f (k + 1) a b = some x ∧ ((x = ⟨#[]⟩) ∨ (x.toList ≠ [] ∧ parseF x = (a, b, true))) := by
  by_cases h0 : b < 0
  · refine ⟨⟨#[]⟩, ?_, .inl rfl⟩
    unfold name_Of.f
    rw [if_pos h0, name_Of.j0, if_pos (by simpa using h0)]
  by_cases h1 : b > 99999999
  · refine ⟨⟨#[]⟩, ?_, .inl rfl⟩
    unfold name_Of.f
    rw [if_neg h0, name_Of.j0, if_pos (by simpa using h1)]
  by_cases ha : a = 1
  · subst ha
    exact ⟨_, of_seg k b (by omega) (by omega), .inr ⟨numbered_ne _ _, parse_numbered 115 1 b (.inl ⟨rfl, rfl⟩) (by omega) (by omega)⟩⟩
  by_cases hb : a = 2
  · subst hb
    exact ⟨_, of_hint k b (by omega) (by omega), .inr ⟨numbered_ne _ _, parse_numbered 104 2 b (.inr ⟨rfl, rfl⟩) (by omega) (by omega)⟩⟩
  have hj : name_Of.f (k + 1) a b = (if b = 0 then (if a = 3 then (some (⟨#[109]⟩ : ByteArray)) else (if a = 4 then (some (⟨#[116]⟩ : ByteArray)) else (some (⟨#[]⟩ : ByteArray)))) else (some (⟨#[]⟩ : ByteArray))) := by
    unfold name_Of.f
    rw [if_neg h0, name_Of.j0, if_neg (by simpa using h1), if_neg ha, if_neg hb]
  rw [hj]
  by_cases hz : b = 0
  · subst hz
    rw [if_pos rfl]
    by_cases h3 : a = 3
    · subst h3
      exact ⟨_, if_pos rfl, .inr ⟨by rw [ByteArray.toList_eq]; simp, parse_m⟩⟩
    · rw [if_neg h3]
      by_cases h4 : a = 4
      · subst h4
        exact ⟨_, if_pos rfl, .inr ⟨by rw [ByteArray.toList_eq]; simp, parse_t⟩⟩
      · exact ⟨_, if_neg h4, .inl rfl⟩
  · exact ⟨_, if_neg hz, .inl rfl⟩
theorem back (k : Nat) (s : ByteArray) : souterrainlaw05_NameBack.j0 (k + 2) s true false = some true := by
  rw [souterrainlaw05_NameBack.j0, if_neg (by decide)]
  by_cases hl : (s.size : Int) > 900
  · rw [if_pos hl]
  rw [if_neg hl]
  unfold name_Parse.f
  rw [Option.bind_some, if_pos rfl]
  rcases parse_spec s with h | ⟨hl2, h⟩ | ⟨hl2, h⟩ | ⟨c, kind, n, hck, n0, n1, h, hs⟩
  · rw [h]; rfl
  · rw [h, if_pos rfl]
    have e3 : name_Of.f (k + 1) 3 0 = some ⟨#[109]⟩ := rfl
    rw [e3, Option.bind_some, hl2, ByteArray.toList_eq]; rfl
  · rw [h, if_pos rfl]
    have e4 : name_Of.f (k + 1) 4 0 = some ⟨#[116]⟩ := rfl
    rw [e4, Option.bind_some, hl2, ByteArray.toList_eq]; rfl
  · rw [h, if_pos rfl]
    rcases hck with ⟨rfl, rfl⟩ | ⟨rfl, rfl⟩
    · rw [of_seg k n n0 n1, Option.bind_some, ← hs]; simp
    · rw [of_hint k n n0 n1, Option.bind_some, ← hs]; simp
theorem NameBack : souterrainlaw05_NameBack.Pure := by
  intro a0 a1 a2 w0 w1 w2
  refine ⟨10, ?_⟩
  unfold souterrainlaw05_NameBack.f
  rw [head_up _ (by omega), Option.bind_some]
  obtain ⟨x, hx, hp⟩ := of_spec 9 a0 a1
  rw [hx, Option.bind_some]
  unfold name_Parse.f
  rw [Option.bind_some]
  rcases hp with rfl | ⟨hne, hp⟩
  · rw [parse_empty, ByteArray.toList_eq, if_neg (by decide), if_neg (by decide)]
    exact back 8 a2
  · rw [hp, if_neg (by simp [hne]), if_pos rfl, if_pos rfl]
    have : (a1 != a1) = false := by simp
    dsimp only
    rw [this]
    exact back 8 a2
end Go.Proofs.Ytgolccldopofbaa.Pure.NameBack_
namespace Go.Proofs.Ytgolccldopofbaa.Pure
theorem NameBack : PNameBack.souterrainlaw05_NameBack.Pure := NameBack_.NameBack
end Go.Proofs.Ytgolccldopofbaa.Pure
