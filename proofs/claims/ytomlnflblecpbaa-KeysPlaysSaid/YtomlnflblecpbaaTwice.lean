/-
  The law KeysTwice.
-/
import Derived.Test.YtomlnflblecpbaaHead
namespace Go.Proofs.Ytomlnflblecpbaa
set_option linter.unusedVariables false
set_option linter.unusedSimpArgs false
open Go.RowKit Go.Proofs.YtomlnflblecpbaaW.PrintWords Go.Proofs.YtomlnflblecpbaaW.PrintMore PKeysPlays
attribute [local go_sem] max2_int min2_int
attribute [local go_sem high] eql32 neq32 guard32
def mT (key : ByteArray) (i : Nat) : List Pl := if i = 0 then [] else [placeOf key ((i : Int) - 1)]
theorem mT_put (key : ByteArray) (i : Nat) : putM (mT key i) (placeOf key i) = mT key (i + 1) := by
  have h : mT key (i + 1) = [placeOf key i] := by unfold mT; rw [if_neg (by omega)]; congr 2; omega
  rw [h]
  unfold mT
  split
  · rfl
  · unfold putM delM
    have : List.filter (fun p : Pl => decide (p.key ≠ (placeOf key i).key)) [placeOf key ((i : Int) - 1)] = [] := by simp [placeOf]
    rw [this]; rfl
theorem mT_get (key : ByteArray) (j : Nat) : getM (mT key (j + 1)) key = some (placeOf key j) := by
  unfold mT; rw [if_neg (by omega), getM_cons, if_pos (show (placeOf key _).key = key from rfl)]; congr 2; omega
theorem mT_del (key : ByteArray) (j : Nat) : delM (mT key (j + 1)) key = [] := by
  unfold mT; rw [if_neg (by omega)]; unfold delM; simp [placeOf]
theorem mT_len (key : ByteArray) (i : Nat) : (mT key i).length ≤ 100000 := by unfold mT; split <;> simp
theorem getM_nil (key : ByteArray) : getM [] key = none := rfl
theorem ans_zero {m : List Pl} {k : ByteArray} (h : getM m k = none) : ans m k = .tuple #[.agg #[.int .i64 0, .int .i64 0, .string ByteArray.empty, .int .i64 0, .int .i64 0], .bool false] := by unfold ans; rw [h]; rfl
theorem ans_at {m : List Pl} {k : ByteArray} {p : Pl} (h : getM m k = some p) : ans m k = .tuple #[.agg #[.int .i64 p.seg, .int .i64 p.kind, .string p.key, .int .i64 p.at_, .int .i64 p.size], .bool true] := by unfold ans; rw [h]; rfl
set_option maxRecDepth 100000 in
set_option maxHeartbeats 8000000 in
theorem twice_calls (w : World) (key : ByteArray) (n : Nat) (hn : n < 256) : Calls Try.prog 8 #[.string key, .int .u8 n] w fun e w' => e = .returned (.bool true) ∧ Below w.heap.size w w' := by
  have hu : IntKind.i64.wrap (n : Int) = n := IntWalk.i64_in _ ⟨by omega, by omega⟩
  go_enter Try.func8, Try.ntmps8
  go_upto_region 3 with (first
    | (go_at_call 9; refine (head_calls _).mono ?_; rintro e w1 ⟨rfl, hb⟩; have HB := Aside0.mk hb; clear hb)
    | (go_at_call 10; refine (p_new (p_start HB.out)).mono ?_; rintro e w2 ⟨d, rfl, hP⟩; have HP := Aside0.mk hP; clear hP HB))
  by_cases hk : 900 < (key.size : Int)
  · have hkd : decide (900 < (key.size : Int)) = true := decide_eq_true hk
    clear hk
    go_wp2
    go_ret
    exact ⟨rfl, HP.out.below⟩
  · have hkd : decide (900 < (key.size : Int)) = false := decide_eq_false hk
    have hks : key.size ≤ 900 := by omega
    clear hk
    go_wp2
    go_loopg [7, 8, 9] (n + 1) (fun f v7 v8 v9 wr => ∃ i : Nat, Aside0 (f + i = n + 1) ∧ i ≤ n + 1 ∧ v7 = .int .i64 i ∧ Aside0 (P2 (dirB d (mT key i)) noB (fun _ => False) w wr))
    case atStart => exact ⟨0, ⟨by omega⟩, by omega, rfl, HP⟩
    case round =>
      clear HP
      obtain ⟨i, HF, hi, rfl, HS⟩ := hrel
      by_cases hlt : i ≤ n
      · have hle : decide ((i : Int) ≤ (n : Int)) = true := decide_eq_true (by omega)
        have HC := Aside0.mk (fun (W : World) (h : P2 (dirB d (mT key i)) noB (fun _ => False) w W) => p_put h (placeOf key i) (by show key.size ≤ _; omega) (mT_len key i))
        rw [mT_put] at HC
        by_cases h0 : i = 0
        · have hd0 : decide (0 < (i : Int)) = false := decide_eq_false (by omega)
          have HA := Aside0.mk (ans_zero (show getM (mT key i) key = none by rw [h0]; rfl))
          have HC2 := Aside0.mk (fun (W : World) (h : P2 (dirB d (mT key i)) noB (fun _ => False) w W) => (by have := HC.out W h; rw [show (placeOf key i).key = key from rfl, HA.out] at this; exact this : Calls Try.prog 20 #[.pointer (some ⟨d, 0, none⟩), .agg (placeOf key i).cells] W fun e w' => e = .returned (.tuple #[.agg #[.int .i64 0, .int .i64 0, .string ByteArray.empty, .int .i64 0, .int .i64 0], .bool false]) ∧ P2 (dirB d (mT key (i + 1))) noB (fun _ => False) w w' ∧ KeepS (fun k => ¬ False) W w'))
          clear HC HA h0
          go_upto_region 9 with (first
            | (go_at_call 26; refine (place_calls _ key i).mono ?_; rintro e w3 ⟨rfl, hg⟩; have HS2 := Aside0.mk (HS.out.grows hg); clear hg HS)
            | (go_at_call 20; refine (HC2.out _ HS2.out).mono ?_; clear HC2; rintro e w4 ⟨rfl, hP, hK⟩; have HS3 := Aside0.mk hP; clear hP hK HS2))
          change Code.wp _ _ _ _ (w4.alloc (.cells (Pl.cells zeroPl) 32))
          have HS4 := Aside0.mk (HS3.out.grows (show Grows w4 (w4.alloc (.cells (Pl.cells zeroPl) 32)) from (Below.refl w4.heap.size w4).alloc (Nat.le_refl _) _))
          clear HS3
          generalize w4.alloc (.cells (Pl.cells zeroPl) 32) = w5 at *
          generalize w4.heap.size = q at *
          apply wp_region_grow (hm := by kernel_rfl) (hB := by kernel_rfl)
          case h =>
            apply grow_fixed (c := .bool false)
            case hw => simp [Region.wanted, yielded]
            case ho =>
              intro w' hb hf
              clear hf
              refine ⟨?_⟩
              go_simp
              exact ⟨Ext.refl _ _, by first | rfl | simp⟩
            simp only [Act.put, List.setIfInBounds_toArray, List.set_cons_zero, List.set_cons_succ]
            apply grow_fixed
            case hw => simp [Region.wanted, yielded]
            case ho =>
              intro w' hb hf
              clear hf
              refine ⟨?_⟩
              go_simp
              exact ⟨Ext.refl _ _, rfl⟩
            simp only [Act.put, List.setIfInBounds_toArray, List.set_cons_zero, List.set_cons_succ]
            apply grow_fixed (c := .bool false)
            case hw => simp [Region.wanted, yielded]
            case ho =>
              intro w' hb hf
              clear hf
              refine ⟨?_⟩
              go_simp
              exact ⟨Ext.refl _ _, by simpa using hd0⟩
            simp only [Act.put, List.setIfInBounds_toArray, List.set_cons_zero, List.set_cons_succ]
            apply grow_fixed (c := .bool false)
            case hw => simp [Region.wanted, yielded]
            case ho =>
              intro w' hb hf
              clear hf
              refine ⟨?_⟩
              go_simp
              exact ⟨Ext.refl _ _, by first | rfl | simp⟩
            simp only [Act.put, List.setIfInBounds_toArray, List.set_cons_zero, List.set_cons_succ]
            apply grow_fixed (c := .bool false)
            case hw => simp [Region.wanted, yielded]
            case ho =>
              intro w' hb hf
              clear hf
              refine ⟨?_⟩
              go_simp
              exact ⟨Ext.refl _ _, by first | rfl | simp⟩
            simp only [Act.put, List.setIfInBounds_toArray, List.set_cons_zero, List.set_cons_succ]
            apply grow_fixed (c := .bool false)
            case hw => simp [Region.wanted, yielded]
            case ho =>
              intro w' hb hf
              clear hf
              refine ⟨?_⟩
              go_simp
              exact ⟨Ext.refl _ _, by first | rfl | simp⟩
            simp only [Act.put, List.setIfInBounds_toArray, List.set_cons_zero, List.set_cons_succ]
            apply grow_fixed (c := .bool false)
            case hw => simp [Region.wanted, yielded]
            case ho =>
              intro w' hb hf
              clear hf
              refine ⟨?_⟩
              go_simp
              exact ⟨Ext.refl _ _, by first | rfl | simp⟩
            simp only [Act.put, List.setIfInBounds_toArray, List.set_cons_zero, List.set_cons_succ]
            apply grow_skip
            case hw => simp [Region.wanted, yielded]
            simp only [Act.put, List.setIfInBounds_toArray, List.set_cons_zero, List.set_cons_succ]
            apply grow_skip
            case hw => simp [Region.wanted, yielded]
            simp only [Act.put, List.setIfInBounds_toArray, List.set_cons_zero, List.set_cons_succ]
            apply grow_skip
            case hw => simp [Region.wanted, yielded]
            simp only [Act.put, List.setIfInBounds_toArray, List.set_cons_zero, List.set_cons_succ]
            apply grow_skip
            case hw => simp [Region.wanted, yielded]
            simp only [Act.put, List.setIfInBounds_toArray, List.set_cons_zero, List.set_cons_succ]
            apply grow_skip
            case hw => simp [Region.wanted, yielded]
            simp only [Act.put, List.setIfInBounds_toArray, List.set_cons_zero, List.set_cons_succ]
            apply grow_skip
            case hw => simp [Region.wanted, yielded]
            simp only [Act.put, List.setIfInBounds_toArray, List.set_cons_zero, List.set_cons_succ]
            apply grow_fixed (c := .bool false)
            case hw => simp [Region.wanted, yielded]
            case ho =>
              intro w' hb hf
              clear hf
              refine ⟨?_⟩
              go_simp
              exact ⟨Ext.refl _ _, by first | rfl | simp⟩
            simp only [Act.put, List.setIfInBounds_toArray, List.set_cons_zero, List.set_cons_succ]
            apply grow_fixed (c := .bool false)
            case hw => simp [Region.wanted, yielded]
            case ho =>
              intro w' hb hf
              clear hf
              refine ⟨?_⟩
              go_simp
              exact ⟨Ext.refl _ _, by first | rfl | simp⟩
            simp only [Act.put, List.setIfInBounds_toArray, List.set_cons_zero, List.set_cons_succ]
            apply grow_fixed (c := .bool false)
            case hw => simp [Region.wanted, yielded]
            case ho =>
              intro w' hb hf
              clear hf
              refine ⟨?_⟩
              go_simp
              exact ⟨Ext.refl _ _, by first | rfl | simp⟩
            simp only [Act.put, List.setIfInBounds_toArray, List.set_cons_zero, List.set_cons_succ]
            apply grow_fixed
            case hw => simp [Region.wanted, yielded]
            case ho =>
              intro w' hb hf
              clear hf
              refine ⟨?_⟩
              go_simp
              exact ⟨Ext.refl _ _, rfl⟩
            simp only [Act.put, List.setIfInBounds_toArray, List.set_cons_zero, List.set_cons_succ]
            apply grow_fixed (c := .int .i64 1)
            case hw => simp [Region.wanted, yielded]
            case ho =>
              intro w' hb hf
              clear hf
              have HMN := Aside0.mk (p_many (HS4.out.grows hb))
              rw [show (mT key (i + 1)).length = 1 by unfold mT; rw [if_neg (by omega)]; rfl] at HMN
              refine ⟨?_⟩
              go_simp
              exact HMN.out.mono fun e w2 h => ⟨_, h.1, by rw [h.2]; exact Ext.refl _ _, rfl⟩
            simp only [Act.put, List.setIfInBounds_toArray, List.set_cons_zero, List.set_cons_succ]
            apply grow_fixed (c := .bool false)
            case hw => simp [Region.wanted, yielded]
            case ho =>
              intro w' hb hf
              clear hf
              refine ⟨?_⟩
              go_simp
              exact ⟨Ext.refl _ _, by first | rfl | simp⟩
            simp only [Act.put, List.setIfInBounds_toArray, List.set_cons_zero, List.set_cons_succ]
            apply grow_fixed (c := .bool false)
            case hw => simp [Region.wanted, yielded]
            case ho =>
              intro w' hb hf
              clear hf
              refine ⟨?_⟩
              go_simp
              exact ⟨Ext.refl _ _, by first | rfl | simp⟩
            simp only [Act.put, List.setIfInBounds_toArray, List.set_cons_zero, List.set_cons_succ]
            refine grow_nil fun w' hb hf => ?_
            have HS5 := Aside0.mk (HS4.out.grows hb)
            clear hf
            go_wp2
            go_roundg (n + 1 - (i + 1))
            case measure => have := HF.out; omega
            case rel => exact ⟨i + 1, ⟨by omega⟩, by omega, by go_num, HS5⟩
          case hsp => exact trivial
        · have hd0 : decide (0 < (i : Int)) = true := decide_eq_true (by omega)
          have hw1 : IntKind.i64.wrap ((i : Int) - 1) = (i : Int) - 1 := IntWalk.i64_in _ ⟨by omega, by omega⟩
          have HA := Aside0.mk (ans_at (show getM (mT key i) key = some (placeOf key ((i : Int) - 1)) by
            obtain ⟨j, rfl⟩ : ∃ j, i = j + 1 := ⟨i - 1, by omega⟩
            rw [mT_get]; congr 2; omega))
          have HC2 := Aside0.mk (fun (W : World) (h : P2 (dirB d (mT key i)) noB (fun _ => False) w W) => (by have := HC.out W h; rw [show (placeOf key i).key = key from rfl, HA.out] at this; exact this : Calls Try.prog 20 #[.pointer (some ⟨d, 0, none⟩), .agg (placeOf key i).cells] W fun e w' => e = .returned (.tuple #[.agg #[.int .i64 ((i : Int) - 1), .int .i64 3, .string key, .int .i64 13, .int .i64 20], .bool true]) ∧ P2 (dirB d (mT key (i + 1))) noB (fun _ => False) w w' ∧ KeepS (fun k => ¬ False) W w'))
          clear HC HA h0
          go_upto_region 9 with (first
            | (go_at_call 26; refine (place_calls _ key i).mono ?_; rintro e w3 ⟨rfl, hg⟩; have HS2 := Aside0.mk (HS.out.grows hg); clear hg HS)
            | (go_at_call 20; refine (HC2.out _ HS2.out).mono ?_; clear HC2; rintro e w4 ⟨rfl, hP, hK⟩; have HS3 := Aside0.mk hP; clear hP hK HS2))
          change Code.wp _ _ _ _ (w4.alloc (.cells (Pl.cells (placeOf key ((i : Int) - 1))) 32))
          have HBX := Aside0.mk (PBox.new w4 (placeOf key ((i : Int) - 1)))
          have HS4 := Aside0.mk (HS3.out.grows (show Grows w4 (w4.alloc (.cells (Pl.cells (placeOf key ((i : Int) - 1))) 32)) from (Below.refl w4.heap.size w4).alloc (Nat.le_refl _) _))
          clear HS3
          generalize w4.alloc (.cells (Pl.cells (placeOf key ((i : Int) - 1))) 32) = w5 at *
          generalize w4.heap.size = q at *
          apply wp_region_grow (hm := by kernel_rfl) (hB := by kernel_rfl)
          case h =>
            apply grow_fixed (c := .bool true)
            case hw => simp [Region.wanted, yielded]
            case ho =>
              intro w' hb hf
              clear hf
              refine ⟨?_⟩
              go_simp
              exact ⟨Ext.refl _ _, by first | rfl | simp⟩
            simp only [Act.put, List.setIfInBounds_toArray, List.set_cons_zero, List.set_cons_succ]
            apply grow_fixed
            case hw => simp [Region.wanted, yielded]
            case ho =>
              intro w' hb hf
              clear hf
              refine ⟨?_⟩
              go_simp
              exact ⟨Ext.refl _ _, rfl⟩
            simp only [Act.put, List.setIfInBounds_toArray, List.set_cons_zero, List.set_cons_succ]
            apply grow_fixed (c := .bool true)
            case hw => simp [Region.wanted, yielded]
            case ho =>
              intro w' hb hf
              clear hf
              refine ⟨?_⟩
              go_simp
              exact ⟨Ext.refl _ _, by simpa using hd0⟩
            simp only [Act.put, List.setIfInBounds_toArray, List.set_cons_zero, List.set_cons_succ]
            apply grow_fixed (c := .bool false)
            case hw => simp [Region.wanted, yielded]
            case ho =>
              intro w' hb hf
              clear hf
              refine ⟨?_⟩
              go_simp
              exact ⟨Ext.refl _ _, by first | rfl | simp⟩
            simp only [Act.put, List.setIfInBounds_toArray, List.set_cons_zero, List.set_cons_succ]
            apply grow_fixed (c := .bool false)
            case hw => simp [Region.wanted, yielded]
            case ho =>
              intro w' hb hf
              clear hf
              refine ⟨?_⟩
              go_simp
              exact ⟨Ext.refl _ _, by first | rfl | simp⟩
            simp only [Act.put, List.setIfInBounds_toArray, List.set_cons_zero, List.set_cons_succ]
            apply grow_fixed (c := .bool true)
            case hw => simp [Region.wanted, yielded]
            case ho =>
              intro w' hb hf
              clear hf
              refine ⟨?_⟩
              go_simp
              exact ⟨Ext.refl _ _, by first | rfl | simp⟩
            simp only [Act.put, List.setIfInBounds_toArray, List.set_cons_zero, List.set_cons_succ]
            apply grow_fixed (c := .bool true)
            case hw => simp [Region.wanted, yielded]
            case ho =>
              intro w' hb hf
              clear hf
              refine ⟨?_⟩
              go_simp
              exact ⟨Ext.refl _ _, by first | rfl | simp⟩
            simp only [Act.put, List.setIfInBounds_toArray, List.set_cons_zero, List.set_cons_succ]
            apply grow_fixed (c := .agg #[.int .i64 ((i : Int) - 1), .int .i64 3, .string key, .int .i64 13, .int .i64 20])
            case hw => simp [Region.wanted, yielded]
            case ho =>
              intro w' hb hf
              clear hf
              have d0 := (HBX.out.grows hb).c0; have d1 := (HBX.out.grows hb).c1; have d2 := (HBX.out.grows hb).c2; have d3 := (HBX.out.grows hb).c3; have d4 := (HBX.out.grows hb).c4
              dsimp only [placeOf] at d0 d1 d2 d3 d4
              refine ⟨?_⟩
              go_simp
              exact ⟨Ext.refl _ _, by first | rfl | simp⟩
            simp only [Act.put, List.setIfInBounds_toArray, List.set_cons_zero, List.set_cons_succ]
            apply grow_fixed
            case hw => simp [Region.wanted, yielded]
            case ho =>
              intro w' hb hf
              clear hf
              refine ⟨?_⟩
              go_simp
              exact ⟨Ext.refl _ _, rfl⟩
            simp only [Act.put, List.setIfInBounds_toArray, List.set_cons_zero, List.set_cons_succ]
            apply grow_fixed
            case hw => simp [Region.wanted, yielded]
            case ho =>
              intro w' hb hf
              clear hf
              refine ⟨?_⟩
              go_simp
              exact ⟨Ext.refl _ _, rfl⟩
            simp only [Act.put, List.setIfInBounds_toArray, List.set_cons_zero, List.set_cons_succ]
            apply grow_fixed (c := .int .i64 ((i : Int) - 1))
            case hw => simp [Region.wanted, yielded]
            case ho =>
              intro w' hb hf
              clear hf
              refine ⟨?_⟩
              go_simp
              exact ⟨Ext.refl _ _, by first | rfl | simp⟩
            simp only [Act.put, List.setIfInBounds_toArray, List.set_cons_zero, List.set_cons_succ]
            apply grow_fixed (c := .agg #[.int .i64 ((i : Int) - 1), .int .i64 3, .string key, .int .i64 13, .int .i64 20])
            case hw => simp [Region.wanted, yielded]
            case ho =>
              intro w' hb hf
              clear hf
              have HPL := Aside0.mk (place_calls w' key ((i : Int) - 1))
              refine ⟨?_⟩
              go_simp
              exact HPL.out.mono fun e w2 h => ⟨_, h.1, Ext.of_below hb.size h.2, rfl⟩
            simp only [Act.put, List.setIfInBounds_toArray, List.set_cons_zero, List.set_cons_succ]
            apply grow_fixed (c := .bool false)
            case hw => simp [Region.wanted, yielded]
            case ho =>
              intro w' hb hf
              clear hf
              refine ⟨?_⟩
              go_simp
              exact ⟨Ext.refl _ _, by first | rfl | simp⟩
            simp only [Act.put, List.setIfInBounds_toArray, List.set_cons_zero, List.set_cons_succ]
            apply grow_fixed (c := .bool false)
            case hw => simp [Region.wanted, yielded]
            case ho =>
              intro w' hb hf
              clear hf
              refine ⟨?_⟩
              go_simp
              exact ⟨Ext.refl _ _, by first | rfl | simp⟩
            simp only [Act.put, List.setIfInBounds_toArray, List.set_cons_zero, List.set_cons_succ]
            apply grow_fixed (c := .bool false)
            case hw => simp [Region.wanted, yielded]
            case ho =>
              intro w' hb hf
              clear hf
              refine ⟨?_⟩
              go_simp
              exact ⟨Ext.refl _ _, by first | rfl | simp⟩
            simp only [Act.put, List.setIfInBounds_toArray, List.set_cons_zero, List.set_cons_succ]
            apply grow_fixed (c := .bool false)
            case hw => simp [Region.wanted, yielded]
            case ho =>
              intro w' hb hf
              clear hf
              refine ⟨?_⟩
              go_simp
              exact ⟨Ext.refl _ _, by first | rfl | simp⟩
            simp only [Act.put, List.setIfInBounds_toArray, List.set_cons_zero, List.set_cons_succ]
            apply grow_fixed
            case hw => simp [Region.wanted, yielded]
            case ho =>
              intro w' hb hf
              clear hf
              refine ⟨?_⟩
              go_simp
              exact ⟨Ext.refl _ _, rfl⟩
            simp only [Act.put, List.setIfInBounds_toArray, List.set_cons_zero, List.set_cons_succ]
            apply grow_fixed (c := .int .i64 1)
            case hw => simp [Region.wanted, yielded]
            case ho =>
              intro w' hb hf
              clear hf
              have HMN := Aside0.mk (p_many (HS4.out.grows hb))
              rw [show (mT key (i + 1)).length = 1 by unfold mT; rw [if_neg (by omega)]; rfl] at HMN
              refine ⟨?_⟩
              go_simp
              exact HMN.out.mono fun e w2 h => ⟨_, h.1, by rw [h.2]; exact Ext.refl _ _, rfl⟩
            simp only [Act.put, List.setIfInBounds_toArray, List.set_cons_zero, List.set_cons_succ]
            apply grow_fixed (c := .bool false)
            case hw => simp [Region.wanted, yielded]
            case ho =>
              intro w' hb hf
              clear hf
              refine ⟨?_⟩
              go_simp
              exact ⟨Ext.refl _ _, by first | rfl | simp⟩
            simp only [Act.put, List.setIfInBounds_toArray, List.set_cons_zero, List.set_cons_succ]
            apply grow_fixed (c := .bool false)
            case hw => simp [Region.wanted, yielded]
            case ho =>
              intro w' hb hf
              clear hf
              refine ⟨?_⟩
              go_simp
              exact ⟨Ext.refl _ _, by first | rfl | simp⟩
            simp only [Act.put, List.setIfInBounds_toArray, List.set_cons_zero, List.set_cons_succ]
            refine grow_nil fun w' hb hf => ?_
            have HS5 := Aside0.mk (HS4.out.grows hb)
            clear hf
            go_wp2
            go_roundg (n + 1 - (i + 1))
            case measure => have := HF.out; omega
            case rel => exact ⟨i + 1, ⟨by omega⟩, by omega, by go_num, HS5⟩
          case hsp => exact trivial
      · obtain rfl : i = n + 1 := by omega
        have hle : decide (((n + 1 : Nat) : Int) ≤ (n : Int)) = false := decide_eq_false (by omega)
        have HC1 := Aside0.mk (fun (W : World) (h : P2 (dirB d (mT key (n + 1))) noB (fun _ => False) w W) => (by have := p_del h key (by omega) (mT_len key _); rw [ans_at (mT_get key n), mT_del] at this; exact this : Calls Try.prog 13 #[.pointer (some ⟨d, 0, none⟩), .string key] W fun e w' => e = .returned (.tuple #[.agg #[.int .i64 n, .int .i64 3, .string key, .int .i64 13, .int .i64 20], .bool true]) ∧ P2 (dirB d []) noB (fun _ => False) w w' ∧ KeepS (fun k => ¬ False) W w'))
        have HC2 := Aside0.mk (fun (M : Nat → Prop) (W : World) (h : P2 (dirB d []) noB M w W) => (by have := p_del h key (by omega) (by decide); rw [ans_zero (getM_nil key)] at this; exact this : Calls Try.prog 13 #[.pointer (some ⟨d, 0, none⟩), .string key] W fun e w' => e = .returned (.tuple #[.agg #[.int .i64 0, .int .i64 0, .string ByteArray.empty, .int .i64 0, .int .i64 0], .bool false]) ∧ P2 (dirB d []) noB M w w' ∧ KeepS (fun k => ¬ M k) W w'))
        go_upto_region 12 with (go_at_call 13; refine (HC1.out _ HS.out).mono ?_; clear HC1; rintro e w3 ⟨rfl, hP, hK⟩; have HS3 := Aside0.mk hP; clear hP hK HS)
        change Code.wp _ _ _ _ (w3.alloc (.cells (Pl.cells (placeOf key n)) 32))
        obtain ⟨M1, hP, hB, hM⟩ := HS3.out.boxed (placeOf key n)
        have HS4 := Aside0.mk hP
        have HB4 := Aside0.mk hB
        clear hP hB hM HS3
        generalize w3.alloc (.cells (Pl.cells (placeOf key n)) 32) = w4 at *
        generalize w3.heap.size = q1 at *
        go_upto_region 13 with (go_at_call 13; refine (HC2.out _ _ HS4.out).mono ?_; clear HC2; rintro e w5 ⟨rfl, hP, hK⟩; have HS5 := Aside0.mk hP; have HB5 := Aside0.mk (HB4.out.kept hK); clear hP hK HS4 HB4)
        change Code.wp _ _ _ _ (w5.alloc (.cells (Pl.cells zeroPl) 32))
        have g5 : Grows w5 (w5.alloc (.cells (Pl.cells zeroPl) 32)) := (Below.refl w5.heap.size w5).alloc (Nat.le_refl _) _
        have HS6 := Aside0.mk (HS5.out.grows g5)
        have HB6 := Aside0.mk (HB5.out.box.grows g5)
        clear HS5 HB5 g5
        generalize w5.alloc (.cells (Pl.cells zeroPl) 32) = w6 at *
        generalize w5.heap.size = q2 at *
        apply wp_region_grow (hm := by kernel_rfl) (hB := by kernel_rfl)
        case h =>
          apply grow_fixed (c := .bool true)
          case hw => simp [Region.wanted, yielded]
          case ho =>
            intro w' hb hf
            clear hf
            refine ⟨?_⟩
            go_simp
            exact ⟨Ext.refl _ _, by first | rfl | simp⟩
          simp only [Act.put, List.setIfInBounds_toArray, List.set_cons_zero, List.set_cons_succ]
          apply grow_fixed (c := .bool true)
          case hw => simp [Region.wanted, yielded]
          case ho =>
            intro w' hb hf
            clear hf
            refine ⟨?_⟩
            go_simp
            exact ⟨Ext.refl _ _, by first | rfl | simp⟩
          simp only [Act.put, List.setIfInBounds_toArray, List.set_cons_zero, List.set_cons_succ]
          apply grow_fixed (c := .bool true)
          case hw => simp [Region.wanted, yielded]
          case ho =>
            intro w' hb hf
            clear hf
            refine ⟨?_⟩
            go_simp
            exact ⟨Ext.refl _ _, by first | rfl | simp⟩
          simp only [Act.put, List.setIfInBounds_toArray, List.set_cons_zero, List.set_cons_succ]
          apply grow_fixed (c := .bool true)
          case hw => simp [Region.wanted, yielded]
          case ho =>
            intro w' hb hf
            clear hf
            refine ⟨?_⟩
            go_simp
            exact ⟨Ext.refl _ _, by first | rfl | simp⟩
          simp only [Act.put, List.setIfInBounds_toArray, List.set_cons_zero, List.set_cons_succ]
          apply grow_fixed (c := .bool true)
          case hw => simp [Region.wanted, yielded]
          case ho =>
            intro w' hb hf
            clear hf
            refine ⟨?_⟩
            go_simp
            exact ⟨Ext.refl _ _, by first | rfl | simp⟩
          simp only [Act.put, List.setIfInBounds_toArray, List.set_cons_zero, List.set_cons_succ]
          apply grow_fixed (c := .agg #[.int .i64 n, .int .i64 3, .string key, .int .i64 13, .int .i64 20])
          case hw => simp [Region.wanted, yielded]
          case ho =>
            intro w' hb hf
            clear hf
            have d0 := (HB6.out.grows hb).c0; have d1 := (HB6.out.grows hb).c1; have d2 := (HB6.out.grows hb).c2; have d3 := (HB6.out.grows hb).c3; have d4 := (HB6.out.grows hb).c4
            dsimp only [placeOf] at d0 d1 d2 d3 d4
            refine ⟨?_⟩
            go_simp
            exact ⟨Ext.refl _ _, by first | rfl | simp⟩
          simp only [Act.put, List.setIfInBounds_toArray, List.set_cons_zero, List.set_cons_succ]
          apply grow_fixed
          case hw => simp [Region.wanted, yielded]
          case ho =>
            intro w' hb hf
            clear hf
            refine ⟨?_⟩
            go_simp
            exact ⟨Ext.refl _ _, rfl⟩
          simp only [Act.put, List.setIfInBounds_toArray, List.set_cons_zero, List.set_cons_succ]
          apply grow_fixed
          case hw => simp [Region.wanted, yielded]
          case ho =>
            intro w' hb hf
            clear hf
            refine ⟨?_⟩
            go_simp
            exact ⟨Ext.refl _ _, rfl⟩
          simp only [Act.put, List.setIfInBounds_toArray, List.set_cons_zero, List.set_cons_succ]
          apply grow_fixed (c := .int .i64 n)
          case hw => simp [Region.wanted, yielded]
          case ho =>
            intro w' hb hf
            clear hf
            refine ⟨?_⟩
            go_simp
            exact ⟨Ext.refl _ _, by first | rfl | simp⟩
          simp only [Act.put, List.setIfInBounds_toArray, List.set_cons_zero, List.set_cons_succ]
          apply grow_fixed (c := .agg #[.int .i64 n, .int .i64 3, .string key, .int .i64 13, .int .i64 20])
          case hw => simp [Region.wanted, yielded]
          case ho =>
            intro w' hb hf
            clear hf
            have HPL := Aside0.mk (place_calls w' key n)
            refine ⟨?_⟩
            go_simp
            exact HPL.out.mono fun e w2 h => ⟨_, h.1, Ext.of_below hb.size h.2, rfl⟩
          simp only [Act.put, List.setIfInBounds_toArray, List.set_cons_zero, List.set_cons_succ]
          apply grow_fixed (c := .bool true)
          case hw => simp [Region.wanted, yielded]
          case ho =>
            intro w' hb hf
            clear hf
            refine ⟨?_⟩
            go_simp
            exact ⟨Ext.refl _ _, by first | rfl | simp⟩
          simp only [Act.put, List.setIfInBounds_toArray, List.set_cons_zero, List.set_cons_succ]
          apply grow_fixed (c := .bool true)
          case hw => simp [Region.wanted, yielded]
          case ho =>
            intro w' hb hf
            clear hf
            refine ⟨?_⟩
            go_simp
            exact ⟨Ext.refl _ _, by first | rfl | simp⟩
          simp only [Act.put, List.setIfInBounds_toArray, List.set_cons_zero, List.set_cons_succ]
          apply grow_fixed (c := .bool true)
          case hw => simp [Region.wanted, yielded]
          case ho =>
            intro w' hb hf
            clear hf
            refine ⟨?_⟩
            go_simp
            exact ⟨Ext.refl _ _, by first | rfl | simp⟩
          simp only [Act.put, List.setIfInBounds_toArray, List.set_cons_zero, List.set_cons_succ]
          apply grow_fixed (c := .bool false)
          case hw => simp [Region.wanted, yielded]
          case ho =>
            intro w' hb hf
            clear hf
            refine ⟨?_⟩
            go_simp
            exact ⟨Ext.refl _ _, by first | rfl | simp⟩
          simp only [Act.put, List.setIfInBounds_toArray, List.set_cons_zero, List.set_cons_succ]
          apply grow_fixed (c := .bool true)
          case hw => simp [Region.wanted, yielded]
          case ho =>
            intro w' hb hf
            clear hf
            refine ⟨?_⟩
            go_simp
            exact ⟨Ext.refl _ _, by first | rfl | simp⟩
          simp only [Act.put, List.setIfInBounds_toArray, List.set_cons_zero, List.set_cons_succ]
          apply grow_fixed (c := .bool true)
          case hw => simp [Region.wanted, yielded]
          case ho =>
            intro w' hb hf
            clear hf
            refine ⟨?_⟩
            go_simp
            exact ⟨Ext.refl _ _, by first | rfl | simp⟩
          simp only [Act.put, List.setIfInBounds_toArray, List.set_cons_zero, List.set_cons_succ]
          apply grow_fixed (c := .bool true)
          case hw => simp [Region.wanted, yielded]
          case ho =>
            intro w' hb hf
            clear hf
            refine ⟨?_⟩
            go_simp
            exact ⟨Ext.refl _ _, by first | rfl | simp⟩
          simp only [Act.put, List.setIfInBounds_toArray, List.set_cons_zero, List.set_cons_succ]
          apply grow_fixed
          case hw => simp [Region.wanted, yielded]
          case ho =>
            intro w' hb hf
            clear hf
            refine ⟨?_⟩
            go_simp
            exact ⟨Ext.refl _ _, rfl⟩
          simp only [Act.put, List.setIfInBounds_toArray, List.set_cons_zero, List.set_cons_succ]
          apply grow_fixed (c := .int .i64 0)
          case hw => simp [Region.wanted, yielded]
          case ho =>
            intro w' hb hf
            clear hf
            have HMN := Aside0.mk (p_many (HS6.out.grows hb))
            refine ⟨?_⟩
            go_simp
            exact HMN.out.mono fun e w2 h => ⟨_, h.1, by rw [h.2]; exact Ext.refl _ _, rfl⟩
          simp only [Act.put, List.setIfInBounds_toArray, List.set_cons_zero, List.set_cons_succ]
          apply grow_fixed (c := .bool true)
          case hw => simp [Region.wanted, yielded]
          case ho =>
            intro w' hb hf
            clear hf
            refine ⟨?_⟩
            go_simp
            exact ⟨Ext.refl _ _, by first | rfl | simp⟩
          simp only [Act.put, List.setIfInBounds_toArray, List.set_cons_zero, List.set_cons_succ]
          apply grow_fixed (c := .bool true)
          case hw => simp [Region.wanted, yielded]
          case ho =>
            intro w' hb hf
            clear hf
            refine ⟨?_⟩
            go_simp
            exact ⟨Ext.refl _ _, by first | rfl | simp⟩
          simp only [Act.put, List.setIfInBounds_toArray, List.set_cons_zero, List.set_cons_succ]
          apply grow_fixed (c := .bool true)
          case hw => simp [Region.wanted, yielded]
          case ho =>
            intro w' hb hf
            clear hf
            refine ⟨?_⟩
            go_simp
            exact ⟨Ext.refl _ _, by first | rfl | simp⟩
          simp only [Act.put, List.setIfInBounds_toArray, List.set_cons_zero, List.set_cons_succ]
          apply grow_fixed
          case hw => simp [Region.wanted, yielded]
          case ho =>
            intro w' hb hf
            clear hf
            refine ⟨?_⟩
            go_simp
            exact ⟨Ext.refl _ _, rfl⟩
          simp only [Act.put, List.setIfInBounds_toArray, List.set_cons_zero, List.set_cons_succ]
          apply grow_free (G := ToldS [])
          case hw => simp [Region.wanted, yielded]
          case hm => exact ToldS.mono _
          case ho =>
            intro w' hb hf
            clear hf
            have HFR := Aside0.mk (p_list (HS6.out.grows hb) (by decide))
            refine ⟨?_⟩
            go_simp
            refine HFR.out.mono ?_
            rintro e w2 ⟨v', rfl, hT, hQ, hg⟩
            exact ⟨_, rfl, Ext.of_below hb.size hg, hT⟩
          intro v97
          simp only [Act.put, List.setIfInBounds_toArray, List.set_cons_zero, List.set_cons_succ]
          apply grow_fixed (c := .int .i64 0)
          case hw => simp [Region.wanted, yielded]
          case ho =>
            intro w' hb hf
            obtain ⟨A9, c9, e9, _, _⟩ : ToldS [] v97 w' := hf _ (List.Mem.head _) (by kernel_rfl)
            clear hf
            subst e9
            refine ⟨?_⟩
            go_simp
            exact ⟨Ext.refl _ _, rfl⟩
          simp only [Act.put, List.setIfInBounds_toArray, List.set_cons_zero, List.set_cons_succ]
          apply grow_fixed (c := .bool true)
          case hw => simp [Region.wanted, yielded]
          case ho =>
            intro w' hb hf
            clear hf
            refine ⟨?_⟩
            go_simp
            exact ⟨Ext.refl _ _, by first | rfl | simp⟩
          simp only [Act.put, List.setIfInBounds_toArray, List.set_cons_zero, List.set_cons_succ]
          apply grow_fixed (c := .bool true)
          case hw => simp [Region.wanted, yielded]
          case ho =>
            intro w' hb hf
            clear hf
            refine ⟨?_⟩
            go_simp
            exact ⟨Ext.refl _ _, by first | rfl | simp⟩
          simp only [Act.put, List.setIfInBounds_toArray, List.set_cons_zero, List.set_cons_succ]
          apply grow_fixed (c := .bool true)
          case hw => simp [Region.wanted, yielded]
          case ho =>
            intro w' hb hf
            clear hf
            refine ⟨?_⟩
            go_simp
            exact ⟨Ext.refl _ _, by first | rfl | simp⟩
          simp only [Act.put, List.setIfInBounds_toArray, List.set_cons_zero, List.set_cons_succ]
          refine grow_nil fun w' hb hf => ?_
          have HE := Aside0.mk (HS6.out.grows hb).below
          clear hf
          go_wp2
          go_ret
          exact ⟨rfl, HE.out⟩
        case hsp => exact ⟨ToldS.mono _, trivial⟩
end Go.Proofs.Ytomlnflblecpbaa
