/-
  Layer 5: a letter, and a number in digits.
-/
import Derived.Test.YtgolccldopofbaaNumber
import Derived.Lib.BufferWrite
import Derived.Lib.LazyBuf
import Derived.Deep.LoopGhost
namespace Go.Proofs.Ytgolccldopofbaa
set_option linter.unusedVariables false
set_option linter.unusedSimpArgs false
open Go.RowKit Go.Proofs.YtgolccldopofbaaW.PrintWords

/-- The digits of a number, from the last one on, each in its place. -/
def fillD : Nat → Nat → Int → List Int → List Int
  | 0, _, _, xs => xs
  | k + 1, i, n, xs => fillD k (i + 1) (n / 10) (xs.set (8 - i) (48 + n % 10))
def numberedL (c n : Int) : List Int := fillD 8 0 n (c :: List.replicate 8 0)
theorem info5 : (Try.prog.info? 5).map (fun i => (i.zero, i.size, i.bytes)) = some (some (.int .u8 0), 1, 1) := by kernel_rfl
theorem fillD_step {k : Nat} (hk : k < 8) (n : Int) (xs : List Int) : fillD (8 - k) k n xs = fillD (8 - (k + 1)) (k + 1) (n / 10) (xs.set (8 - k) (48 + n % 10)) := by
  conv => lhs; rw [show 8 - k = 8 - (k + 1) + 1 by omega, fillD]
theorem copied_row (w : World) (base : Nat) (hb : base ≤ w.heap.size) (a : ByteArray) (ha : a.size = 1) : ∃ W2, (Builtin.copy_ #[42, 9] 3 #[.slice (some ⟨w.heap.size, 0, none⟩) 9 9, .string a]).run Try.prog (w.alloc (.cells (madeCells #[.int .u8 0] 9) 5)) = .ok (.int .i64 1) W2 ∧
    W2.ownsRow base 5 1 (.slice (some ⟨w.heap.size, 0, none⟩) 9 9) 9 (nums .u8 (bt a 0 :: List.replicate 8 0)) ∧ Below w.heap.size w W2 := by
  have hown := own_made w base 5 .u8 9 hb (by decide)
  have hat := own_at hown 0 (by decide) (by decide)
  have hst := own_store hown 0 (bt a 0)
  obtain ⟨x, hx⟩ : ∃ x, a.data.toList = [x] := by
    have := data_length a
    rw [ha] at this
    exact List.length_eq_one_iff.1 this
  have hbx : bt a 0 = (x.toNat : Int) := by
    rw [← rd_bytesOf, bytesOf, hx]; rfl
  have hz : ∀ w, (Go.sizeOf 5).run Try.prog w = .ok 1 w := fun w => by simp [Go.sizeOf, typeInfo]; rfl
  have hrun := run_copy_string (P := Try.prog) (w.alloc (.cells (madeCells #[.int .u8 0] 9) 5)) 42 9 3 5 w.heap.size 0 9 9 a Try.underlying42 hz (by omega) (fun j hj => by
    obtain rfl : j = 0 := by omega
    rw [show (0 : Nat) + 0 = (0 : Int).toNat from rfl, hat.1]; rfl) (fun j hj => by
    obtain rfl : j = 0 := by omega
    exact hat.2)
  refine ⟨_, hrun.trans (by rw [ha]; rfl), ?_, ?_⟩
  · rw [hx]
    simp only [List.map_cons, List.map_nil, ← hbx]
    exact hst.1
  · rw [hx]
    exact ((Below.refl _ w).alloc (Nat.le_refl _) _).setCell (p := ⟨w.heap.size, 0, none⟩) (Nat.le_refl _) _

set_option maxRecDepth 100000 in
set_option maxHeartbeats 1000000 in
theorem numbered_calls (a : ByteArray) (ha : a.size = 1) (n : Int) (h0 : 0 ≤ n) (h1 : n ≤ 99999999) (w : World) :
    Calls Try.prog 17 #[.string a, .int .i64 n] w fun e w' => e = .returned (.string (strOfNums (numberedL (bt a 0) n))) ∧ Below w.heap.size w w' := by
  have hmk : ∀ W : World, (Instr.makeSlice 42 (.int .i64 9) (.int .i64 9)).run Try.prog W = .ok (.slice (some ⟨W.heap.size, 0, none⟩) 9 9) (W.alloc (.cells (madeCells #[.int .u8 0] 9) 5)) := print_make (P := Try.prog) 42 5 .u8 1 Try.underlying42 info5 (by decide) 9 (by decide)
  obtain ⟨W2, hcp, hrow, hbel⟩ := copied_row w w.heap.size (Nat.le_refl _) a ha
  have HROW := Aside0.mk hrow
  have HB := Aside0.mk hbel
  clear hrow hbel
  go_enter Try.func17, Try.ntmps17
  go_wp2
  go_loopg [1, 11] 8 (fun g n' i wr => ∃ (k : Nat) (m : Int) (xs : List Int), Aside0 (g + k = 8) ∧ k ≤ 8 ∧ i = .int .i64 k ∧ n' = .int .i64 m ∧ 0 ≤ m ∧ m ≤ 99999999 ∧ Aside0 (fillD (8 - k) k m xs = numberedL (bt a 0) n ∧ wr.ownsRow w.heap.size 5 1 (.slice (some ⟨w.heap.size, 0, none⟩) 9 9) 9 (nums .u8 xs) ∧ Below w.heap.size w wr))
  case atStart => exact ⟨0, n, _, ⟨rfl⟩, by omega, rfl, rfl, h0, h1, ⟨rfl, HROW.out, HB.out⟩⟩
  case round =>
    obtain ⟨k, m, xs, HK, hk, rfl, rfl, hm0, hm1, HR⟩ := hrel
    by_cases hlt : k < 8
    · have hat := own_at HR.out.2.1 (8 - (k : Int)) (by omega) (by omega)
      have hq0 : 0 ≤ m.tmod 10 ∧ m.tmod 10 < 10 := ⟨Int.tmod_nonneg _ hm0, Int.tmod_lt_of_pos _ (by omega)⟩
      obtain ⟨hc, hf⟩ := hat
      have hst := own_store HR.out.2.1 (8 - (k : Int)) (48 + m % 10)
      rw [show (8 - (k : Int)).toNat = 8 - k by omega] at hc hf hst
      have HST := Aside0.mk hst
      clear hst
      go_wp2
      go_roundg (8 - (k + 1))
      case measure => have := HK.out; omega
      case rel => exact ⟨k + 1, m / 10, _, ⟨by omega⟩, by omega, by go_num, rfl, by omega, by omega, ⟨by rw [← fillD_step hlt]; exact HR.out.1, HST.out.1, HR.out.2.2.setCell (p := ⟨w.heap.size, 8 - k, none⟩) (Nat.le_refl _) _⟩⟩
    · have e : k = 8 := by omega
      subst e
      have hcv := own_string (P := Try.prog) Try.underlying42 Try.underlying5 Try.underlying9 HR.out.2.1
      go_wp2
      go_ret
      have e : xs = numberedL (bt a 0) n := HR.out.1
      rw [e]
      exact ⟨rfl, HR.out.2.2⟩
end Go.Proofs.Ytgolccldopofbaa
