/-
  The law SumZero: the Go function returns true at every input, and writes nothing that was there.
-/
import Derived.Test.YtnbjmhlijepkfaaRows
import Derived.WalkKit
import Derived.ProofKit
import Derived.OpenShut
import Derived.ShutString
import Derived.ChangeOld
import Derived.Below
import Derived.SizedLaws
import Derived.Test.YtnbjmhlijepkfaaOpen

namespace Go.Proofs.Ytnbjmhlijepkfaa.sumZero
open Go.ChangeShapes Go.WideShapes Go.ChangeAt Go.RowKit
open Go.Proofs.Ytnbjmhlijepkfaa Crc
set_option linter.unusedVariables false
set_option linter.unusedSimpArgs false

theorem own : ownKnob Try.prog.godebug = none := by kernel_rfl
theorem laidOut : laidOutB Try.prog = true := by kernel_rfl

theorem run_zero (s : BitVec 32) (zs : List Int) : run (fun _ => 0#32) s zs = s >>> (8 * zs.length) := by
  induction zs generalizing s with
  | nil => simp [run]
  | cons z zs ih =>
    unfold run at *
    simp only [List.foldl_cons, List.length_cons]
    rw [ih]
    unfold onStep
    simp only [BitVec.xor_zero]
    rw [← BitVec.shiftRight_add]
    congr 1
    omega
theorem shr_all (x : BitVec 32) (n : Nat) (h : 4 ≤ n) : x >>> (8 * n) = x >>> (8 * 4) := by
  apply BitVec.eq_of_getLsbD_eq
  intro i hi
  simp only [BitVec.getLsbD_ushiftRight]
  rw [BitVec.getLsbD_of_ge _ _ (by omega), BitVec.getLsbD_of_ge _ _ (by omega)]
set_option maxRecDepth 100000 in
set_option maxHeartbeats 1000000 in
theorem early (s0 : BitVec 32) (a1 : Option Addr) (len1 cap1 : Nat) (z1 : List Int) (w : World)  (w1 : Bytes w a1 len1 z1) (c1 : len1 ≤ cap1 ∧ cap1 ≤ 140737488351232) (hl : 9000 < len1) :
    Calls Try.prog 8 #[U s0, .slice a1 len1 cap1] w fun e w' => e = .returned (.bool true) ∧ Below w.heap.size w w' := by
  have hl2 : (9000 : Int) < (len1 : Int) := by omega
  clear w1 hl
  simp only [U]
  go_enter Try.func8, Try.ntmps8
  go_wp2_with (first | (go_at_call 9; refine (head_calls _).mono ?_; rintro e w1 ⟨rfl, hb1⟩; have HB1 := Aside0.mk hb1; clear hb1))
  go_ret
  exact ⟨rfl, HB1.out⟩
set_option maxRecDepth 100000 in
set_option maxHeartbeats 1000000 in
theorem late (s0 : BitVec 32) (a1 : Option Addr) (len1 cap1 : Nat) (z1 : List Int) (w : World)  (w1 : Bytes w a1 len1 z1) (c1 : len1 ≤ cap1 ∧ cap1 ≤ 140737488351232) (hl : ¬ 9000 < len1) :
    Calls Try.prog 8 #[U s0, .slice a1 len1 cap1] w fun e w' => e = .returned (.bool true) ∧ Below w.heap.size w w' := by
  have HW := Aside0.mk w1
  have hl2 : (len1 : Int) ≤ 9000 := by omega
  clear w1 hl
  have HZ := Aside0.mk zero23
  simp only [U]
  go_enter Try.func8, Try.ntmps8
  go_wp2_with (first | (go_at_call 9; refine (head_calls _).mono ?_; rintro e w1 ⟨rfl, hb1⟩; have HB1 := Aside0.mk hb1; clear hb1; have hz := HZ.out))
  clear hz
  go_loopg [7, 8] len1 (fun g v i wr => ∃ (k : Nat), Aside0 (g + k = len1) ∧ k ≤ 4 ∧ k ≤ len1 ∧ i = .int .i64 k ∧ v = U ((~~~ s0) >>> (8 * k)) ∧ wr = w1.alloc (.cells zs0 23))
  case atStart => exact ⟨0, ⟨rfl⟩, by omega, by omega, rfl, by simp only [U]; rw [not32]; rfl, rfl⟩
  case round =>
    obtain ⟨k, HK, hk, hkl, rfl, rfl, rfl⟩ := hrel
    obtain ⟨x, hx⟩ : ∃ x, x = (~~~ s0) >>> (8 * k) := ⟨_, rfl⟩
    rw [← hx]
    have HX := Aside0.mk hx
    clear hx
    simp only [U]
    by_cases hlt : k < len1 ∧ k < 4
    · obtain ⟨h1, h2⟩ := hlt
      have hd1 : decide ((k : Int) < (len1 : Int)) = true := by simp; omega
      have hd2 : decide ((k : Int) < 4) = true := by simp; omega
      go_wp2
      go_roundg (len1 - (k + 1))
      case measure => have := HK.out; omega
      case rel =>
        refine ⟨k + 1, ⟨by omega⟩, by omega, by omega, by go_num, ?_, rfl⟩
        simp only [U]
        rw [shr8, HX.out, ← BitVec.shiftRight_add, show 8 * k + 8 = 8 * (k + 1) by omega]
    · have hfin : on (fun _ => 0#32) s0 z1 = ~~~ x := by
        unfold on
        rw [run_zero, HX.out, HW.out.len]
        by_cases h4 : 4 ≤ len1
        · have : k = 4 := by omega
          rw [this, shr_all _ _ h4]
        · have : k = len1 := by omega
          rw [this]
      have HF := Aside0.mk hfin
      clear hfin
      have HB2 : Aside0 (Below w.heap.size w (w1.alloc (.cells zs0 23))) := ⟨HB1.out.alloc HB1.out.size _⟩
      have HC : Aside0 (Calls Try.prog 12 #[.agg zs0, U s0, .slice a1 len1 cap1] (w1.alloc (.cells zs0 23)) fun e w' => e = .returned (U (on (fun _ => 0#32) s0 z1)) ∧ Below (w1.alloc (.cells zs0 23)).heap.size (w1.alloc (.cells zs0 23)) w') := ⟨on_calls (fun _ => 0#32) s0 a1 len1 cap1 z1 _ (HW.out.below HB2.out)⟩
      by_cases h1 : k < len1
      · have h2 : ¬ k < 4 := by omega
        have hd1 : decide ((k : Int) < (len1 : Int)) = true := by simp; omega
        have hd2 : decide ((k : Int) < 4) = false := by simp; omega
        go_wp2_with fail
        refine wp_load_row 23 _ rfl w1.heap.size rfl 23 zs0 (0, 0) _ (heap_alloc_new w1 _) Try.underlying23 rfl (by rw [info23, zs0, cellsOf_size]) ?_
        go_wp2_with (first | (go_at_call 12; refine HC.out.mono ?_; rintro e w2 ⟨rfl, hb2⟩; rw [HF.out]; have hn := not32 x; simp only [U]))
        go_ret
        exact ⟨by simp, below_tail HB2.out hb2⟩
      · have hd1 : decide ((k : Int) < (len1 : Int)) = false := by simp; omega
        go_wp2_with fail
        refine wp_load_row 23 _ rfl w1.heap.size rfl 23 zs0 (0, 0) _ (heap_alloc_new w1 _) Try.underlying23 rfl (by rw [info23, zs0, cellsOf_size]) ?_
        go_wp2_with (first | (go_at_call 12; refine HC.out.mono ?_; rintro e w2 ⟨rfl, hb2⟩; rw [HF.out]; have hn := not32 x; simp only [U]))
        go_ret
        exact ⟨by simp, below_tail HB2.out hb2⟩
theorem walk (s0 : BitVec 32) (a1 : Option Addr) (len1 cap1 : Nat) (z1 : List Int) (w : World)  (w1 : Bytes w a1 len1 z1) (c1 : len1 ≤ cap1 ∧ cap1 ≤ 140737488351232) :
    Calls Try.prog 8 #[U s0, .slice a1 len1 cap1] w fun e w' => e = .returned (.bool true) ∧ Below w.heap.size w w' := by
  by_cases hl : 9000 < len1
  · exact early s0 a1 len1 cap1 z1 w w1 c1 hl
  · exact late s0 a1 len1 cap1 z1 w w1 c1 hl

set_option maxRecDepth 100000 in
theorem lifted (os : Os) (started : os.Started) (H : Type) (enc : TypeId × Value → H) :
    ReturnsInHanded {} Try.checked os 8 .any (Rows.sumZeroSpec.pre6 enc Try.prog Try.f8 Rows.sumZeroRow.domain false) (Rows.sumZeroSpec.post enc Try.prog Try.f8 false true false false) := by
  refine returnsInHanded_of_change_sized (C := Try.checked) own started (by kernel_rfl) Try.func8
    (ChangeSpec.witness6 (enc := enc) (C := Try.checked) false ⟨#[], #[.int .u32 0, .slice none 0 0], []⟩ 8 (by kernel_rfl) (by kernel_rfl) (by kernel_rfl) (by kernel_rfl)) ?_
  intro W base args ds gs before hval0 hW hcnd hsz0 _
  have hval : ∀ (j : Nat) t v, Try.f8.params[j]? = some t → args[j]? = some v → Value.okWide Try.prog W .any base t v := hval0
  have hW' := hW
  obtain ⟨p, q, hA0, hV, rfl, hfz, hnd⟩ := hW
  have hA : DataW.TrodAll enc Try.prog W 0 (fun _ => true) true Try.f8.params.toList args.toList ds p := hA0
  have hsz : (DataW.weightsEach Try.prog (Try.f8.params.toList ++ Rows.sumZeroSpec.plain.varTypes Try.prog) (ds ++ gs)).all (· ≤ reachBytes) = true := hsz0
  rw [Try.params8] at hA hval hsz
  obtain ⟨v0, vs0, d0, ds0, p0, q0, hargs, rfl, rfl, h0, r0⟩ := trodAll_cons hA
  obtain ⟨v1, vs1, d1, ds1, p1, q1, rfl, rfl, rfl, h1, r1⟩ := trodAll_cons r0
  obtain ⟨rfl, rfl, rfl⟩ := trodAll_nil r1
  obtain rfl : args = #[v0, v1] := by cases args; simp_all
  obtain ⟨rfl, rfl⟩ := trodVars_none hV
  have k0 := h0
  have lt0 : ∀ x ∈ p0, x.block < W.heap.size := by obtain ⟨m, hm⟩ := k0; exact DataW.trod_lt m _ _ _ hm
  obtain ⟨n0, rfl, hd0, hp0, hw0⟩ := open_int Try.underlying22 (hval 0 22 v0 rfl rfl) h0
  obtain ⟨s0, rfl⟩ := u32_of hw0
  have k1 := h1
  have lt1 : ∀ x ∈ p1, x.block < W.heap.size := by obtain ⟨m, hm⟩ := k1; exact DataW.trod_lt m _ _ _ hm
  obtain ⟨a1, len1, cap1, z1, rfl, w1, c1, m1⟩ := open_bytes 1 (hval 1 24 v1 rfl rfl) h1 hsz rfl rfl
  clear hA0 hval0 hsz0
  refine (walk s0 a1 len1 cap1 z1 W  w1 ⟨c1, m1⟩).mono fun e W' ⟨he, bel⟩ => ?_
  subst he
  exact ⟨_, rfl, _, _, _, [], _, [], hW', trodAll_mk1 (shut_bool Try.underlying4 _), (trodAll_cons_mk (Below.trod laidOut (by kernel_rfl) (of_decide_eq_true (by kernel_rfl)) k0 bel lt0) (trodAll_cons_mk (Below.trod laidOut (by kernel_rfl) (of_decide_eq_true (by kernel_rfl)) k1 bel lt1) trodAll_mk0)), rfl, bel.frame _, fun h => by cases h⟩

theorem over : Rows.sumZeroRow.holds Try.pinned (OpenSpec.ofChange Rows.sumZeroSpec) :=
  OpenClaim.holds_of_wide 8 Try.f8 rfl rfl rfl rfl rfl rfl rfl ⟨rfl, rfl, rfl, rfl, rfl⟩ rfl rfl rfl rfl rfl (by kernel_rfl) Try.func8 (by kernel_rfl)
    (of_decide_eq_true (by kernel_rfl)) (by unfold Func.isWrapper; first | (rw [if_pos (by decide +kernel)]; kernel_rfl) | (rw [if_neg (by decide +kernel)]; exact ⟨rfl, rfl⟩))
    (fun os started H enc _ => lifted os started H enc)

theorem proved : Rows.SumZeroSaid := over
#print axioms proved
end Go.Proofs.Ytnbjmhlijepkfaa.sumZero
