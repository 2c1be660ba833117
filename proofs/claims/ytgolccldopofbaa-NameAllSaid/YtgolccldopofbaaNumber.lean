/-
  Layer 5: the number of digits: a range over a string.
-/
import Derived.Tactics
import Derived.Tactics2
import Derived.StillTactics
import Derived.Below
import Derived.WalkKit
import Derived.IntWalk
import Derived.Laws.RangeString
import Derived.Laws.RangeAny
import Derived.Laws.Runes
import Derived.LoopTactic
import Derived.Test.YtgolccldopofbaaProg
import Derived.Test.YtgolccldopofbaaWWords
namespace Go.Proofs.Ytgolccldopofbaa
set_option linter.unusedVariables false
set_option linter.unusedSimpArgs false
open Go.RowKit Go.Proofs.YtgolccldopofbaaW.PrintWords

/-- So many digits from a place on, behind a number. -/
def numAt (s : ByteArray) : Nat → Nat → Int → Int × Bool
  | 0, _, n => (n, true)
  | k + 1, pos, n => if bt s pos < 48 ∨ 57 < bt s pos then (0, false) else numAt s k (pos + 1) (10 * n + (bt s pos - 48))
def numberF (s : ByteArray) : Int × Bool := if s.size = 8 then numAt s 8 0 0 else (0, false)

theorem numAt_bad {s : ByteArray} {pos : Nat} (acc : Int) (hp : pos < 8) (h : bt s pos < 48 ∨ 57 < bt s pos) : numAt s (8 - pos) pos acc = (0, false) := by
  rw [show 8 - pos = 8 - (pos + 1) + 1 by omega, numAt, if_pos h]
theorem numAt_good {s : ByteArray} {pos : Nat} (acc : Int) (hp : pos < 8) (h : ¬ (bt s pos < 48 ∨ 57 < bt s pos)) : numAt s (8 - pos) pos acc = numAt s (8 - (pos + 1)) (pos + 1) (10 * acc + (bt s pos - 48)) := by
  conv => lhs; rw [show 8 - pos = 8 - (pos + 1) + 1 by omega, numAt, if_neg h]
theorem iter_below (w : World) (s : ByteArray) (pos : Nat) : Below w.heap.size w (w.iter s pos) := (Below.refl _ w).alloc (Nat.le_refl _) _

set_option maxRecDepth 100000 in
set_option maxHeartbeats 1000000 in
theorem number_calls (s : ByteArray) (w : World) :
    Calls Try.prog 16 #[.string s] w fun e w' => e = .returned (.tuple #[.int .i64 (numberF s).1, .bool (numberF s).2]) ∧ Below w.heap.size w w' := by
  by_cases h8 : s.size = 8
  · have H8 := Aside0.mk h8
    have hm : s.size ≤ 9223372036854775807 := by omega
    have hd : ((s.size : Int) != 8) = false := by rw [h8]; rfl
    have HN := Aside0.mk (show numberF s = numAt s 8 0 0 by rw [numberF, if_pos h8])
    clear h8
    go_enter Try.func16, Try.ntmps16
    go_wp2
    go_loopw [4] (fun n w' => ∃ (pos : Nat) (acc : Int), w' = w.iter s pos ∧ n = .int .i64 acc ∧ Aside0 (pos ≤ 8 ∧ numAt s (8 - pos) pos acc = numAt s 8 0 0 ∧ 0 ≤ acc ∧ acc < 10 ^ pos)) (fun _ w' => s.size - w'.iterPos w.heap.size)
    case atStart => exact ⟨0, 0, rfl, rfl, ⟨by omega, rfl, by omega, by decide⟩⟩
    case round =>
      obtain ⟨pos, acc, rfl, rfl, HR⟩ := hrel
      by_cases hp : pos < s.size
      · have hp8 : pos < 8 := by have := H8.out; omega
        have hbt : bt s pos = ((s[pos]'hp).toNat : Int) := (bt_at s pos (by simpa using hp)).symm
        by_cases ha : (s[pos]'hp).toNat < 128
        · have hnx : ∀ ty, (Instr.next (.pointer (some ⟨w.heap.size, 0, none⟩)) true ty).run Try.prog (w.iter s pos) = _ := fun ty => run_next_ascii w s pos ty hp ha
          rw [← hbt] at hnx
          have hb0 : 0 ≤ bt s pos := by rw [hbt]; omega
          have hb1 : bt s pos < 128 := by rw [hbt]; omega
          have HBT := Aside0.mk hbt
          clear hbt ha
          obtain ⟨hr1, hr2, hr3, hr4⟩ := HR.out
          have HA := Aside0.mk hr2
          have hpw : (10 : Int) ^ pos ≤ 10000000 := by
            have := Nat.pow_le_pow_right (n := 10) (by omega) (show pos ≤ 7 by omega)
            have e : ((10 ^ pos : Nat) : Int) = (10 : Int) ^ pos := by simp
            rw [← e]; omega
          have HPW := Aside0.mk (show (10 : Int) ^ (pos + 1) = 10 * 10 ^ pos by rw [Int.pow_succ]; omega)
          have HACC := Aside0.mk hr4
          have hacc : acc ≤ 9999999 := by omega
          clear hr2 hr4 hpw
          generalize hbc : bt s pos = c at hnx hb0 hb1 HBT
          have HBC := Aside0.mk hbc
          clear hbc
          by_cases h1 : c < 48
          · have h1' : decide (c < 48) = true := by simpa using h1
            go_wp2
            go_ret2
            rw [HN.out, ← HA.out, numAt_bad acc hp8 (by rw [HBC.out]; exact .inl h1)]
            exact ⟨rfl, iter_below _ _ _⟩
          · have h1' : decide (c < 48) = false := by simpa using h1
            by_cases h2 : 57 < c
            · have h2' : decide (57 < c) = true := by simpa using h2
              go_wp2
              go_ret2
              rw [HN.out, ← HA.out, numAt_bad acc hp8 (by rw [HBC.out]; exact .inr h2)]
              exact ⟨rfl, iter_below _ _ _⟩
            · have h2' : decide (57 < c) = false := by simpa using h2
              go_wp2
              refine ⟨⟨pos + 1, _, rfl, rfl, ⟨by omega, ?_, by omega, ?_⟩⟩, ?_⟩
              · rw [← HA.out, numAt_good acc hp8 (by rw [HBC.out]; omega), HBC.out]
              · rw [HPW.out]; have := HACC.out; omega
              · simp; omega
        · have hbig := decode_high s pos hp (by omega)
          have hnx : ∀ ty, (Instr.next (.pointer (some ⟨w.heap.size, 0, none⟩)) true ty).run Try.prog (w.iter s pos) = _ := fun ty => run_next_any w s pos ty hp
          have HA := Aside0.mk HR.out.2.1
          have HBAD := Aside0.mk (show bt s pos < 48 ∨ 57 < bt s pos from .inr (by rw [hbt]; omega))
          clear hbt ha HR
          generalize hrv : Utf8.decode s pos = rv at hnx hbig
          obtain ⟨r, wd⟩ := rv
          obtain ⟨hr, hwd⟩ := hbig
          dsimp only at hr hwd hnx
          clear hrv hwd
          have h1' : decide ((r : Int) < 48) = false := by simp; omega
          have h2' : decide (57 < (r : Int)) = true := by simp; omega
          go_wp2
          go_ret2
          rw [HN.out, ← HA.out, numAt_bad acc hp8 HBAD.out]
          exact ⟨rfl, iter_below _ _ _⟩
      · have hnx : ∀ ty, (Instr.next (.pointer (some ⟨w.heap.size, 0, none⟩)) true ty).run Try.prog (w.iter s pos) = _ := fun ty => run_next_end w s pos ty hp
        go_wp2
        go_ret2
        have he : pos = 8 := by have := HR.out.1; have := H8.out; omega
        have h := HR.out.2.1
        rw [he] at h
        rw [HN.out, ← h]
        exact ⟨rfl, iter_below _ _ _⟩
  · have hd : ((s.size : Int) != 8) = true := by simp; omega
    have HN := Aside0.mk (show numberF s = (0, false) by rw [numberF, if_neg h8])
    go_enter Try.func16, Try.ntmps16
    go_wp2
    go_ret2
    rw [HN.out]
    exact ⟨rfl, Below.refl _ _⟩
end Go.Proofs.Ytgolccldopofbaa
