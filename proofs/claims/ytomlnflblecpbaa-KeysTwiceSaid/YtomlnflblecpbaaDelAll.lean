/-
  Layer 13: slices.Delete of one place: its walk.
-/
import Derived.Test.YtomlnflblecpbaaDelete
namespace Go.Proofs.Ytomlnflblecpbaa
set_option linter.unusedVariables false
set_option linter.unusedSimpArgs false
open Go.RowKit Go.Proofs.YtomlnflblecpbaaW.PrintWords Go.Proofs.YtomlnflblecpbaaW.PrintMore
attribute [local go_sem] max2_int min2_int
set_option maxRecDepth 100000 in
set_option maxHeartbeats 2000000 in
theorem delete_calls {W : World} {b c : Nat} {l : List Pl} (h : W.ownsRow 0 32 5 (.slice (some ⟨b, 0, none⟩) l.length c) l.length (flatP l)) {i : Nat} (hi : i < l.length) (hl : l.length ≤ 1000000) (hc : l.length ≤ c) :
    Calls Try.prog 28 #[.slice (some ⟨b, 0, none⟩) l.length c, .int .i64 i, .int .i64 ((i : Int) + 1)] W fun e w' => e = .returned (.slice (some ⟨b, 0, none⟩) (l.length - 1) c) ∧
      w'.ownsRow 0 32 5 (.slice (some ⟨b, 0, none⟩) (l.length - 1) c) (l.length - 1) (flatP (l.take i ++ l.drop (i + 1))) ∧ W.grownBy w' (some b) := by
  have H := Aside0.mk h
  clear h
  have hik : i + 1 ≤ l.length := by omega
  have hic : i ≤ c := by omega
  have hic1 : i + 1 ≤ c := by omega
  have hw2 : (0 : Int) ≤ (i : Int) + 1 := by omega
  have hw3 : ((i : Int) + 1).toNat = i + 1 := by omega
  have hw4 : (i : Int) + 1 ≤ (l.length : Int) := by omega
  have hw5 : (i : Int) ≤ (i : Int) + 1 := by omega
  have hne : ((i : Int) == (i : Int) + 1) = false := by rw [beq_eq_false_iff_ne]; omega
  have hw6 : (l.length : Int) ≤ (c : Int) := by omega
  go_enter Try.func28, Try.ntmps28
  obtain ⟨a, ha⟩ : ∃ a : Addr, a = (if c = i + 1 then ⟨b, 0, none⟩ else ⟨b, (i + 1) * 5, none⟩) := ⟨_, rfl⟩
  have HA := Aside0.mk (show i + 1 < l.length → a = ⟨b, (i + 1) * 5, none⟩ from fun h => by rw [ha, if_neg (by omega)])
  have hA2 : (if c = i + 1 then some (⟨b, 0, none⟩ : Addr) else some ⟨b, (i + 1) * 5, none⟩) = some a := by rw [ha]; split <;> rfl
  clear ha
  go_upto_region 5 with fail
  apply wp_region_phase_last (K0 := Grows) (K := KeepS (fun k => k = b)) (hK := phaseK _) (I0 := fun W' => W'.ownsRow 0 32 5 (.slice (some ⟨b, 0, none⟩) l.length c) l.length (flatP l)) (h0 := H.out) (hI := fun _ _ h hg => own_grows hg h) (hL := by rfl) (hm := by kernel_rfl) (hB := by kernel_rfl) (hB2 := by kernel_rfl)
  case h =>
    simp only [List.dropLast_cons_cons, List.dropLast_singleton]
    apply phase_fixed
    case hw => simp [Region.wanted, yielded]
    case ho =>
      intro w3 hk hf
      clear hf
      refine ⟨?_⟩
      go_simp
      exact ⟨Grows.refl _, rfl⟩
    simp only [Act.put, List.setIfInBounds_toArray, List.set_cons_zero, List.set_cons_succ]
    apply phase_fixed
    case hw => simp [Region.wanted, yielded]
    case ho =>
      intro w3 hk hf
      clear hf
      refine ⟨?_⟩
      go_simp
      exact ⟨Grows.refl _, rfl⟩
    simp only [Act.put, List.setIfInBounds_toArray, List.set_cons_zero, List.set_cons_succ]
    apply phase_fixed (c := .slice (some ⟨b, 0, none⟩) i c)
    case hw => simp [Region.wanted, yielded]
    case ho =>
      intro w3 hk hf
      clear hf
      refine ⟨?_⟩
      go_simp
      exact ⟨Grows.refl _, rfl⟩
    simp only [Act.put, List.setIfInBounds_toArray, List.set_cons_zero, List.set_cons_succ]
    apply phase_fixed
    case hw => simp [Region.wanted, yielded]
    case ho =>
      intro w3 hk hf
      clear hf
      refine ⟨?_⟩
      go_simp
      exact ⟨Grows.refl _, rfl⟩
    simp only [Act.put, List.setIfInBounds_toArray, List.set_cons_zero, List.set_cons_succ]
    apply phase_fixed
    case hw => simp [Region.wanted, yielded]
    case ho =>
      intro w3 hk hf
      clear hf
      refine ⟨?_⟩
      go_simp
      exact ⟨Grows.refl _, rfl⟩
    simp only [Act.put, List.setIfInBounds_toArray, List.set_cons_zero, List.set_cons_succ]
    apply phase_fixed (c := .slice (some a) (l.length - (i + 1)) (c - (i + 1)))
    case hw => simp [Region.wanted, yielded]
    case ho =>
      intro w3 hk hf
      clear hf
      refine ⟨?_⟩
      go_simp
      exact ⟨Grows.refl _, by simp⟩
    simp only [Act.put, List.setIfInBounds_toArray, List.set_cons_zero, List.set_cons_succ]
    apply phase_turn (c := .slice (some ⟨b, 0, none⟩) (l.length - 1) c) (J := fun W' => W'.ownsRow 0 32 5 (.slice (some ⟨b, 0, none⟩) (l.length - 1) c) (l.length - 1) (flatP (l.take i ++ l.drop (i + 1))))
    case hw => simp [Region.wanted, yielded]
    case ho =>
      intro w3 hk hf hI
      clear hf
      obtain ⟨w1, hrun, ho, hg⟩ := close_run hI hi a (c - (i + 1)) HA.out
      exact growAt_append (.tmp 22) (.tmp 25) 48 rfl rfl rfl ⟨_, w1, hrun, KeepS.of_grown hg (fun k e => by injection e with e; exact e.symm), ho, rfl⟩
    case hJ => exact fun a c h hh => own_grows hh h
    simp only [Act.put, List.setIfInBounds_toArray, List.set_cons_zero, List.set_cons_succ]
    refine phase_nil fun w9 hk hI hf => ?_
    clear hf
    obtain ⟨k, hk1⟩ : ∃ k, l.length - 1 = k := ⟨_, rfl⟩
    rw [hk1] at hI ⊢
    have hkn : l.length = k + 1 := by omega
    have hL2 : (l.take i ++ l.drop (i + 1)).length = k := by rw [List.length_append, List.length_take, List.length_drop]; omega
    obtain ⟨w10, hrun, ho, hg⟩ := clear_run (cc := c - k) hI (by omega)
    have HF := Aside0.mk (show w10.ownsRow 0 32 5 (.slice (some ⟨b, 0, none⟩) k c) k (flatP (l.take i ++ l.drop (i + 1))) ∧ W.grownBy w10 (some b) from
      ⟨ho, ⟨hg.os.trans hk.os, hg.tape.trans hk.tape, hg.output.trans hk.output, Nat.le_trans hk.size hg.size, fun j hj hne => (hg.block j (Nat.lt_of_lt_of_le hj hk.size) hne).trans (hk.block j hj fun e => hne (by rw [e]))⟩⟩)
    have hs1 : k ≤ c := by omega
    have hs2 : (k : Int) ≤ (l.length : Int) := by omega
    have hs3 : k ≤ l.length := by omega
    have hs4 : l.length - k = 1 := by omega
    have hs5 : (if c = k then some (⟨b, 0, none⟩ : Addr) else some ⟨b, k * 5, none⟩) = some ⟨b, k * 5, none⟩ := if_neg (by omega)
    have hs6 : (l.length : Int) ≤ (c : Int) := by omega
    have HKN := Aside0.mk hk1
    clear ho hg hk hI hA2 hL2 hkn hk1
    refine ⟨by simp [Region.wanted, yielded], ⟨?_⟩⟩
    go_simp
    simp only [growUpon]
    go_wp2
    go_ret
    rw [HKN.out]
    exact ⟨rfl, HF.out⟩
  case ht => kernel_rfl
end Go.Proofs.Ytomlnflblecpbaa
