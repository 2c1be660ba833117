import Derived.Test.YtgolccldopofbaaPNameOrderx1
import Derived.Test.YtgolccldopofbaaHeads
import Derived.IntWalk
namespace Go.Proofs.Ytgolccldopofbaa.Pure.NameOrder_
set_option linter.unusedVariables false
set_option linter.unusedSimpArgs false
open Go.RowKit Go.Proofs.Ytgolccldopofbaa Go.Proofs.Ytgolccldopofbaa.PNameOrder Go.Proofs.YtgolccldopofbaaW.PrintWords Go.Proofs.YtgolccldopofbaaW.PrintLast

theorem up {α : Type} {f : Nat → Option α} (hm : ∀ k, LeO (f k) (f (k + 1))) {r : α} {k : Nat} (h : f k = some r) : ∀ j, k ≤ j → f j = some r := by
  intro j hj
  induction j with
  | zero => rw [show k = 0 by omega] at h; exact h
  | succ j ih =>
    by_cases e : k = j + 1
    · subst e; exact h
    · exact hm j r (ih (by omega))
theorem num_f (b : UInt8) (c n : Int) (hc : bt ⟨#[b]⟩ 0 = c) (h0 : 0 ≤ n) (h1 : n ≤ 99999999) : name_numbered.f ⟨#[b]⟩ n = some (strOfNums (numberedL c n)) := by
  unfold name_numbered.f
  rw [if_pos (by rfl), if_pos h0, if_pos h1, hc]
theorem of_seg (k : Nat) (n : Int) (h0 : 0 ≤ n) (h1 : n ≤ 99999999) : name_Of.f (k + 1) 1 n = some (strOfNums (numberedL 115 n)) := by
  unfold name_Of.f
  rw [if_neg (by omega)]
  rw [name_Of.j0, if_neg (by simp; omega), if_pos rfl, num_f 115 115 n rfl h0 h1]
  rfl
theorem of_hint (k : Nat) (n : Int) (h0 : 0 ≤ n) (h1 : n ≤ 99999999) : name_Of.f (k + 1) 2 n = some (strOfNums (numberedL 104 n)) := by
  unfold name_Of.f
  rw [if_neg (by omega)]
  rw [name_Of.j0, if_neg (by simp; omega), if_neg (by omega), if_pos rfl, num_f 104 104 n rfl h0 h1]
  rfl
theorem of_man (k : Nat) : name_Of.f (k + 1) 3 0 = some ⟨#[109]⟩ := rfl
theorem head_ok : souterrainlaw05_head.f 8 = some true := by
  unfold souterrainlaw05_head.f name_Parse.f name_Segments.f
  rw [parse42, p1, of_seg 7 42 (by omega) (by omega), segs_head]
  simp only [Option.bind_some]
  rw [if_pos str42]
  have e3 : name_Of.f 8 3 0 = some ⟨#[109]⟩ := rfl
  have e4 : name_Of.f 8 4 0 = some ⟨#[116]⟩ := rfl
  have e5 : name_Of.f 8 3 1 = some ⟨#[]⟩ := rfl
  have e6 : name_Of.f 8 1 100000000 = some ⟨#[]⟩ := rfl
  rw [e3, Option.bind_some, if_pos (by rw [ByteArray.toList_eq]), e4, Option.bind_some, if_pos (by rw [ByteArray.toList_eq]), e5, Option.bind_some, if_pos (by rw [ByteArray.toList_eq]), e6, Option.bind_some, if_pos (by rw [ByteArray.toList_eq])]
  rw [if_pos trivial, if_pos trivial, if_pos trivial, if_neg (by decide), if_pos (by decide), Option.bind_some]
  have e7 : souterrainref05_SameInts.f 8 [2, 7] [2, 7] = some true := by kernel_rfl
  rw [e7]
  rfl
theorem NameOrder : souterrainlaw05_NameOrder.Pure := by
  intro a0 a1 w0 w1
  refine ⟨7 + 1, ?_⟩
  have hr : ∀ x : Int, (Lit.int .u32 x).wf = true → 0 ≤ wrap64 (Int.tmod x 100000000) ∧ wrap64 (Int.tmod x 100000000) ≤ 99999999 := by
    intro x hx
    have hx' : 0 ≤ x ∧ x ≤ 4294967295 := by simpa [Lit.wf, IntKind.min, IntKind.max, IntKind.signed, IntKind.bits] using hx
    have h1 := Int.tmod_nonneg 100000000 hx'.1
    have h2 := Int.tmod_lt_of_pos x (show (0 : Int) < 100000000 by omega)
    rw [IntWalk.wrap64_in _ ⟨by omega, by omega⟩]
    omega
  obtain ⟨ha, ha2⟩ := hr a0 w0
  obtain ⟨hb, hb2⟩ := hr a1 w1
  unfold souterrainlaw05_NameOrder.f
  rw [head_ok, Option.bind_some, if_pos rfl]
  generalize wrap64 (Int.tmod a0 100000000) = a at *
  generalize wrap64 (Int.tmod a1 100000000) = b at *
  rw [of_seg 7 a ha ha2, of_seg 7 b hb hb2, of_hint 7 a ha ha2, of_hint 7 b hb hb2, of_man 7]
  simp only [Option.bind_some]
  rw [numbered_lt 115 a b (by omega) ha ha2 hb hb2, numbered_lt 104 a b (by omega) ha ha2 hb hb2]
  rw [if_pos (by simp), if_pos (by simp), if_neg, if_neg]
  · rw [strOfNums_size, numberedL_eq]; rfl
  · rw [str_toList, numberedL_eq, ByteArray.toList_eq]
    intro h
    have := congrArg List.length h
    simp at this
  · rw [str_toList, str_toList, numberedL_eq, numberedL_eq]
    intro h
    have := congrArg List.head? h
    simp at this
end Go.Proofs.Ytgolccldopofbaa.Pure.NameOrder_
namespace Go.Proofs.Ytgolccldopofbaa.Pure
theorem NameOrder : PNameOrder.souterrainlaw05_NameOrder.Pure := NameOrder_.NameOrder
end Go.Proofs.Ytgolccldopofbaa.Pure
