-- Printed by wip/givenprint.py of this repository: the printer's run, with contracts of my own for some functions.
import Derived.Test.YtgolccldopofbaaPNameTellsx0
import Derived.Test.YtgolccldopofbaaPNameTellsx1
namespace Go.Proofs.Ytgolccldopofbaa.PNameTells
open Go.RowKit Go.Proofs.YtgolccldopofbaaW.PrintWords Go.Proofs.YtgolccldopofbaaW.PrintLast Go.Proofs.YtgolccldopofbaaW.PrintMore
attribute [local go_sem] max2_int min2_int max_two min_two max_three min_three max_four min_four   -- for this text's walks alone
set_option linter.unusedVariables false
set_option linter.unusedSimpArgs false

/-! ### souterrainref05_Parse: function 10 -/
mutual
def souterrainref05_Parse.j1 : Nat → ByteArray → Int → Option (Int × Int × Bool)
  | 0, _, _ => none
  | k + 1, x0, x5 => souterrainref05_Parse.l1 k x0 x5 1
def souterrainref05_Parse.l1 : Nat → ByteArray → Int → Int → Option (Int × Int × Bool)
  | 0, _, _, _ => none
  | k + 1, x0, x5, x7 => if x7 ≤ 4 then (if x7 > 2 then (if x0.toList = ([] : List UInt8) then (souterrainref05_Parse.l1 k x0 x5 (wrap64 (x7 + 1))) else ((souterrainref05_Of.f k x7 0).bind fun t129 => (if t129.toList = x0.toList then (some (x7, 0, true)) else (souterrainref05_Parse.l1 k x0 x5 (wrap64 (x7 + 1)))))) else (if x0.toList = ([] : List UInt8) then (souterrainref05_Parse.l1 k x0 x5 (wrap64 (x7 + 1))) else ((souterrainref05_Of.f k x7 x5).bind fun t130 => (if t130.toList = x0.toList then (some (x7, x5, true)) else (souterrainref05_Parse.l1 k x0 x5 (wrap64 (x7 + 1))))))) else (some (0, 0, false))
def souterrainref05_Parse.l0 : Nat → ByteArray → Int → Int → Option (Int × Int × Bool)
  | 0, _, _, _ => none
  | k + 1, x0, x5, x6 => if x6 < (x0.size : Int) then (if x6 < 9 then (if 0 ≤ x6 then (souterrainref05_Parse.l0 k x0 (wrap64 ((wrap64 (10 * x5)) + (Int.tmod (wrap64 ((wrap64 (bt x0 x6)) - 48)) 10))) (wrap64 (x6 + 1))) else (none)) else (souterrainref05_Parse.j1 k x0 x5)) else (souterrainref05_Parse.j1 k x0 x5)
end
def souterrainref05_Parse.f (k : Nat) (a0 : ByteArray) : Option (Int × Int × Bool) := souterrainref05_Parse.l0 k a0 0 1
theorem souterrainref05_Parse.mono_l : ∀ k, (∀ y0 y1, LeO (souterrainref05_Parse.j1 k y0 y1) (souterrainref05_Parse.j1 (k + 1) y0 y1)) ∧ (∀ y0 y1 y2, LeO (souterrainref05_Parse.l1 k y0 y1 y2) (souterrainref05_Parse.l1 (k + 1) y0 y1 y2)) ∧ (∀ y0 y1 y2, LeO (souterrainref05_Parse.l0 k y0 y1 y2) (souterrainref05_Parse.l0 (k + 1) y0 y1 y2))
  | 0 => ⟨fun _ _ r h => by simp [souterrainref05_Parse.j1] at h, fun _ _ _ r h => by simp [souterrainref05_Parse.l1] at h, fun _ _ _ r h => by simp [souterrainref05_Parse.l0] at h⟩
  | k + 1 => by
    obtain ⟨ih0, ih1, ih2⟩ := souterrainref05_Parse.mono_l k
    refine ⟨?_, ?_, ?_⟩
    · intro y0 y1
      unfold souterrainref05_Parse.j1
      repeat' first
      | (with_reducible exact ih0 _ _)
      | (with_reducible exact ih1 _ _ _)
      | (with_reducible exact ih2 _ _ _)
      | (with_reducible exact souterrainref05_Of.mono _ _ _)
      | (with_reducible exact LeO.refl _)
      | (with_reducible exact LeO.none _)
      | (with_reducible refine LeO.ite ?_ ?_)
      | (with_reducible refine LeO.bind ?_ (fun _ => ?_))
      | exact ih0 _ _
      | exact ih1 _ _ _
      | exact ih2 _ _ _
      | exact souterrainref05_Of.mono _ _ _
      | exact LeO.none _
      | refine LeO.ite ?_ ?_
      | refine LeO.bind ?_ (fun _ => ?_)
    · intro y0 y1 y2
      unfold souterrainref05_Parse.l1
      repeat' first
      | (with_reducible exact ih0 _ _)
      | (with_reducible exact ih1 _ _ _)
      | (with_reducible exact ih2 _ _ _)
      | (with_reducible exact souterrainref05_Of.mono _ _ _)
      | (with_reducible exact LeO.refl _)
      | (with_reducible exact LeO.none _)
      | (with_reducible refine LeO.ite ?_ ?_)
      | (with_reducible refine LeO.bind ?_ (fun _ => ?_))
      | exact ih0 _ _
      | exact ih1 _ _ _
      | exact ih2 _ _ _
      | exact souterrainref05_Of.mono _ _ _
      | exact LeO.none _
      | refine LeO.ite ?_ ?_
      | refine LeO.bind ?_ (fun _ => ?_)
    · intro y0 y1 y2
      unfold souterrainref05_Parse.l0
      repeat' first
      | (with_reducible exact ih0 _ _)
      | (with_reducible exact ih1 _ _ _)
      | (with_reducible exact ih2 _ _ _)
      | (with_reducible exact souterrainref05_Of.mono _ _ _)
      | (with_reducible exact LeO.refl _)
      | (with_reducible exact LeO.none _)
      | (with_reducible refine LeO.ite ?_ ?_)
      | (with_reducible refine LeO.bind ?_ (fun _ => ?_))
      | exact ih0 _ _
      | exact ih1 _ _ _
      | exact ih2 _ _ _
      | exact souterrainref05_Of.mono _ _ _
      | exact LeO.none _
      | refine LeO.ite ?_ ?_
      | refine LeO.bind ?_ (fun _ => ?_)
theorem souterrainref05_Parse.mono : ∀ a0 k, LeO (souterrainref05_Parse.f k a0) (souterrainref05_Parse.f (k + 1) a0) := by
  intro a0 k
  obtain ⟨ih0, ih1, ih2⟩ := souterrainref05_Parse.mono_l k
  unfold souterrainref05_Parse.f
  repeat' first
      | (with_reducible exact ih0 _ _)
      | (with_reducible exact ih1 _ _ _)
      | (with_reducible exact ih2 _ _ _)
      | (with_reducible exact souterrainref05_Of.mono _ _ _)
      | (with_reducible exact LeO.refl _)
      | (with_reducible exact LeO.none _)
      | (with_reducible refine LeO.ite ?_ ?_)
      | (with_reducible refine LeO.bind ?_ (fun _ => ?_))
      | exact ih0 _ _
      | exact ih1 _ _ _
      | exact ih2 _ _ _
      | exact souterrainref05_Of.mono _ _ _
      | exact LeO.none _
      | refine LeO.ite ?_ ?_
      | refine LeO.bind ?_ (fun _ => ?_)
set_option maxHeartbeats 8000000 in
set_option maxRecDepth 100000 in
theorem souterrainref05_Parse.calls (k : Nat) (a0 : ByteArray) (r1 : Int) (r2 : Int) (r3 : Bool) (w : World) (h : souterrainref05_Parse.f k a0 = some (r1, r2, r3)) :
    Calls Try.prog 10 #[.string a0] w fun e w' => e = .returned (.tuple #[.int .i64 r1, .int .i64 r2, .bool r3]) ∧ Below w.heap.size w w' := by
  have HB := Aside0.mk (Below.refl w.heap.size w)
  have H : (souterrainref05_Parse.l0 k a0 0 1) = some (r1, r2, r3) := h
  clear h
  have HC2 := Aside0.mk H
  clear H
  go_enter Try.func10, Try.ntmps10
  go_upto_block 0 with (fail)
  go_cut [5] (fun v5 wc => ∃ (kq : Nat) (x5_1 : Int), v5 = .int .i64 x5_1 ∧ Aside0 (souterrainref05_Parse.j1 kq a0 x5_1 = some (r1, r2, r3)) ∧ Aside0 (kq ≤ k) ∧ Aside0 (Below w.heap.size w wc))
  case first =>
    have H := HC2.out
    clear HC2
    have H' := Aside0.mk H
    clear H
    go_wp2
    go_loopg [5, 6] k (fun kq v5 v6 w' => ∃ (x5_1 : Int) (x6_1 : Int), v5 = .int .i64 x5_1 ∧ v6 = .int .i64 x6_1 ∧ Aside0 (souterrainref05_Parse.l0 kq a0 x5_1 x6_1 = some (r1, r2, r3)) ∧ Aside0 (kq ≤ k) ∧ Aside0 (Below w.heap.size w w'))
    case atStart => exact ⟨(0), (1), (by first | rfl | (simp; done) | (simp [*]; done)), (by first | rfl | (simp; done) | (simp [*]; done)), H', ⟨Nat.le_refl _⟩, ⟨by repeat (first | (with_reducible first | exact HB.out | apply below_alloc | apply pw_below_drewN | apply below_drew1) | exact HB.out)⟩⟩
    case round =>
      clear H'
      try clear c1
      try clear p2
      obtain ⟨x5_1, x6_1, rfl, rfl, HA, HK1, HB⟩ := hrel
      cases gk with
      | zero => exact absurd HA.out (by simp [souterrainref05_Parse.l0])
      | succ k1 =>
        have H := HA.out
        clear HA
        simp only [souterrainref05_Parse.l0] at H
        by_cases c3 : x6_1 < (a0.size : Int)
        · rw [if_pos c3] at H
          have c3b0 : decide (x6_1 < (a0.size : Int)) = true := decide_eq_true c3
          clear c3
          (first | rw [c3b0] | (simp only [i64_w, i32_w]; rw [c3b0]) | skip)
          by_cases c4 : x6_1 < 9
          · rw [if_pos c4] at H
            have c4b0 : decide (x6_1 < 9) = true := decide_eq_true c4
            clear c4
            by_cases c5 : 0 ≤ x6_1
            · rw [if_pos c5] at H
              have c5b0 : decide (0 ≤ x6_1) = true := decide_eq_true c5
              clear c5
              have H' := Aside0.mk H
              clear H
              have p6 : 0 ≤ (x6_1 : Int) := of_decide_eq_true (by first | (with_reducible assumption) | assumption)
              have q6 : x6_1 < (a0.size : Int) := of_decide_eq_true (by first | (with_reducible assumption) | assumption)
              have hx6 := bt_at a0 x6_1
              replace p6 := eq_true p6
              replace q6 := eq_true q6
              go_wp2
              go_roundg k1
              case measure => have := HK1.out; omega
              case rel => exact ⟨(wrap64 ((wrap64 (10 * x5_1)) + (Int.tmod (wrap64 ((wrap64 (bt a0 x6_1)) - 48)) 10))), (wrap64 (x6_1 + 1)), (by first | rfl | (simp; done) | (simp [*]; done)), (by first | rfl | (simp; done) | (simp [*]; done)), H', ⟨by have := HK1.out; omega⟩, ⟨by repeat (first | (with_reducible first | exact HB.out | apply below_alloc | apply pw_below_drewN | apply below_drew1) | exact HB.out)⟩⟩
            · rw [if_neg c5] at H
              exact absurd H (by simp)
          · rw [if_neg c4] at H
            have c4b0 : decide (x6_1 < 9) = false := decide_eq_false c4
            clear c4
            have H' := Aside0.mk H
            clear H
            go_wp2
            go_meet
            case rel => exact ⟨_, (x5_1), (by first | rfl | (simp; done) | (simp [*]; done)), H', ⟨by have := HK1.out; first | omega | exact Nat.le_refl _⟩, ⟨by repeat (first | (with_reducible first | exact HB.out | apply below_alloc | apply pw_below_drewN | apply below_drew1) | exact HB.out)⟩⟩
        · rw [if_neg c3] at H
          have c3b0 : decide (x6_1 < (a0.size : Int)) = false := decide_eq_false c3
          clear c3
          (first | rw [c3b0] | (simp only [i64_w, i32_w]; rw [c3b0]) | skip)
          have H' := Aside0.mk H
          clear H
          go_wp2
          go_meet
          case rel => exact ⟨_, (x5_1), (by first | rfl | (simp; done) | (simp [*]; done)), H', ⟨by have := HK1.out; first | omega | exact Nat.le_refl _⟩, ⟨by repeat (first | (with_reducible first | exact HB.out | apply below_alloc | apply pw_below_drewN | apply below_drew1) | exact HB.out)⟩⟩
  case rest =>
    clear HC2
    try clear c1
    try clear p2
    try clear c3
    try clear c3b0
    try clear c4
    try clear c4b0
    try clear c5
    try clear c5b0
    try clear p6
    try clear q6
    try clear hx6
    try clear p2
    try clear p6
    try clear q6
    obtain ⟨kq, x5_1, rfl, HA, HJ1, HB⟩ := hcut
    cases kq with
    | zero => exact absurd HA.out (by simp [souterrainref05_Parse.j1])
    | succ kj1 =>
      have H := HA.out
      clear HA
      simp only [souterrainref05_Parse.j1] at H
      have H' := Aside0.mk H
      clear H
      go_wp2
      go_loopg [7] kj1 (fun kq v7 w' => ∃ (x7_2 : Int), v7 = .int .i64 x7_2 ∧ Aside0 (souterrainref05_Parse.l1 kq a0 x5_1 x7_2 = some (r1, r2, r3)) ∧ Aside0 (kq ≤ kj1) ∧ Aside0 (Below w.heap.size w w'))
      case atStart => exact ⟨(1), (by first | rfl | (simp; done) | (simp [*]; done)), H', ⟨Nat.le_refl _⟩, ⟨by repeat (first | (with_reducible first | exact HB.out | apply below_alloc | apply pw_below_drewN | apply below_drew1) | exact HB.out)⟩⟩
      case round =>
        clear H'
        try clear c1
        try clear p2
        try clear c3
        try clear c3b0
        try clear c4
        try clear c4b0
        try clear c5
        try clear c5b0
        try clear p6
        try clear q6
        try clear hx6
        try clear p2
        try clear p6
        try clear q6
        obtain ⟨x7_2, rfl, HA, HK2, HB⟩ := hrel
        cases gk with
        | zero => exact absurd HA.out (by simp [souterrainref05_Parse.l1])
        | succ k2 =>
          have H := HA.out
          clear HA
          simp only [souterrainref05_Parse.l1] at H
          by_cases c7 : x7_2 ≤ 4
          · rw [if_pos c7] at H
            have c7b0 : decide (x7_2 ≤ 4) = true := decide_eq_true c7
            clear c7
            by_cases c8 : x7_2 > 2
            · rw [if_pos c8] at H
              have c8b0 : decide (2 < x7_2) = true := decide_eq_true c8
              clear c8
              by_cases c9 : a0.toList = ([] : List UInt8)
              · rw [if_pos c9] at H
                have c9b0 : (a0.toList == ([] : List UInt8)) = true := beq_iff_eq.mpr c9
                have c9b1 : (a0.toList != ([] : List UInt8)) = false := bne_eq_false_iff_eq.mpr c9
                clear c9
                have H' := Aside0.mk H
                clear H
                go_wp2
                go_roundg k2
                case measure => have := HJ1.out; have := HK2.out; omega
                case rel => exact ⟨(wrap64 (x7_2 + 1)), (by first | rfl | (simp; done) | (simp [*]; done)), H', ⟨by have := HJ1.out; have := HK2.out; omega⟩, ⟨by repeat (first | (with_reducible first | exact HB.out | apply below_alloc | apply pw_below_drewN | apply below_drew1) | exact HB.out)⟩⟩
              · rw [if_neg c9] at H
                have c9b0 : (a0.toList == ([] : List UInt8)) = false := beq_eq_false_iff_ne.mpr c9
                have c9b1 : (a0.toList != ([] : List UInt8)) = true := bne_iff_ne.mpr c9
                replace H := Option.bind_eq_some_iff.mp H
                obtain ⟨t129, A100, H⟩ := H
                replace H : (if t129.toList = a0.toList then (some (x7_2, 0, true)) else (souterrainref05_Parse.l1 k2 a0 x5_1 (wrap64 (x7_2 + 1)))) = some (r1, r2, r3) := H
                have A10 := Aside0.mk A100
                clear A100
                by_cases c11 : t129.toList = a0.toList
                · rw [if_pos c11] at H
                  have c11b0 : (t129.toList == a0.toList) = true := beq_iff_eq.mpr c11
                  have c11b1 : (t129.toList != a0.toList) = false := bne_eq_false_iff_eq.mpr c11
                  clear c11
                  simp only [Option.some.injEq, Prod.mk.injEq] at H
                  obtain ⟨rfl, rfl, rfl⟩ := H
                  go_wp2_with (first | (go_at_call 12; (with_reducible refine (souterrainref05_Of.calls k2 x7_2 0 t129 _ A10.out).mono ?_); rintro e w12 ⟨rfl, hb⟩; have n0_ := Aside0.mk (below_step (by repeat (first | (with_reducible first | exact HB.out | apply below_alloc | apply pw_below_drewN | apply below_drew1) | exact HB.out)) hb); clear HB; have HB := n0_; clear n0_; (try clear hb); (try clear hb2); (try clear hk); (try clear hi)))
                  go_ret3
                  exact ⟨by first | rfl | (simp [errW_none, errW_some] <;> rfl) | (simp [*, errW_none, errW_some] <;> rfl), by repeat (first | (with_reducible first | exact HB.out | apply below_alloc | apply pw_below_drewN | apply below_drew1) | exact HB.out)⟩
                · rw [if_neg c11] at H
                  have c11b0 : (t129.toList == a0.toList) = false := beq_eq_false_iff_ne.mpr c11
                  have c11b1 : (t129.toList != a0.toList) = true := bne_iff_ne.mpr c11
                  have H' := Aside0.mk H
                  clear H
                  go_wp2_with (first | (go_at_call 12; (with_reducible refine (souterrainref05_Of.calls k2 x7_2 0 t129 _ A10.out).mono ?_); rintro e w13 ⟨rfl, hb⟩; have n0_ := Aside0.mk (below_step (by repeat (first | (with_reducible first | exact HB.out | apply below_alloc | apply pw_below_drewN | apply below_drew1) | exact HB.out)) hb); clear HB; have HB := n0_; clear n0_; (try clear hb); (try clear hb2); (try clear hk); (try clear hi)))
                  go_roundg k2
                  case measure => have := HJ1.out; have := HK2.out; omega
                  case rel => exact ⟨(wrap64 (x7_2 + 1)), (by first | rfl | (simp; done) | (simp [*]; done)), H', ⟨by have := HJ1.out; have := HK2.out; omega⟩, ⟨by repeat (first | (with_reducible first | exact HB.out | apply below_alloc | apply pw_below_drewN | apply below_drew1) | exact HB.out)⟩⟩
            · rw [if_neg c8] at H
              have c8b0 : decide (2 < x7_2) = false := decide_eq_false c8
              clear c8
              by_cases c14 : a0.toList = ([] : List UInt8)
              · rw [if_pos c14] at H
                have c14b0 : (a0.toList == ([] : List UInt8)) = true := beq_iff_eq.mpr c14
                have c14b1 : (a0.toList != ([] : List UInt8)) = false := bne_eq_false_iff_eq.mpr c14
                clear c14
                have H' := Aside0.mk H
                clear H
                go_wp2
                go_roundg k2
                case measure => have := HJ1.out; have := HK2.out; omega
                case rel => exact ⟨(wrap64 (x7_2 + 1)), (by first | rfl | (simp; done) | (simp [*]; done)), H', ⟨by have := HJ1.out; have := HK2.out; omega⟩, ⟨by repeat (first | (with_reducible first | exact HB.out | apply below_alloc | apply pw_below_drewN | apply below_drew1) | exact HB.out)⟩⟩
              · rw [if_neg c14] at H
                have c14b0 : (a0.toList == ([] : List UInt8)) = false := beq_eq_false_iff_ne.mpr c14
                have c14b1 : (a0.toList != ([] : List UInt8)) = true := bne_iff_ne.mpr c14
                replace H := Option.bind_eq_some_iff.mp H
                obtain ⟨t130, A150, H⟩ := H
                replace H : (if t130.toList = a0.toList then (some (x7_2, x5_1, true)) else (souterrainref05_Parse.l1 k2 a0 x5_1 (wrap64 (x7_2 + 1)))) = some (r1, r2, r3) := H
                have A15 := Aside0.mk A150
                clear A150
                by_cases c16 : t130.toList = a0.toList
                · rw [if_pos c16] at H
                  have c16b0 : (t130.toList == a0.toList) = true := beq_iff_eq.mpr c16
                  have c16b1 : (t130.toList != a0.toList) = false := bne_eq_false_iff_eq.mpr c16
                  clear c16
                  simp only [Option.some.injEq, Prod.mk.injEq] at H
                  obtain ⟨rfl, rfl, rfl⟩ := H
                  go_wp2_with (first | (go_at_call 12; (with_reducible refine (souterrainref05_Of.calls k2 x7_2 x5_1 t130 _ A15.out).mono ?_); rintro e w17 ⟨rfl, hb⟩; have n0_ := Aside0.mk (below_step (by repeat (first | (with_reducible first | exact HB.out | apply below_alloc | apply pw_below_drewN | apply below_drew1) | exact HB.out)) hb); clear HB; have HB := n0_; clear n0_; (try clear hb); (try clear hb2); (try clear hk); (try clear hi)))
                  go_ret3
                  exact ⟨by first | rfl | (simp [errW_none, errW_some] <;> rfl) | (simp [*, errW_none, errW_some] <;> rfl), by repeat (first | (with_reducible first | exact HB.out | apply below_alloc | apply pw_below_drewN | apply below_drew1) | exact HB.out)⟩
                · rw [if_neg c16] at H
                  have c16b0 : (t130.toList == a0.toList) = false := beq_eq_false_iff_ne.mpr c16
                  have c16b1 : (t130.toList != a0.toList) = true := bne_iff_ne.mpr c16
                  have H' := Aside0.mk H
                  clear H
                  go_wp2_with (first | (go_at_call 12; (with_reducible refine (souterrainref05_Of.calls k2 x7_2 x5_1 t130 _ A15.out).mono ?_); rintro e w18 ⟨rfl, hb⟩; have n0_ := Aside0.mk (below_step (by repeat (first | (with_reducible first | exact HB.out | apply below_alloc | apply pw_below_drewN | apply below_drew1) | exact HB.out)) hb); clear HB; have HB := n0_; clear n0_; (try clear hb); (try clear hb2); (try clear hk); (try clear hi)))
                  go_roundg k2
                  case measure => have := HJ1.out; have := HK2.out; omega
                  case rel => exact ⟨(wrap64 (x7_2 + 1)), (by first | rfl | (simp; done) | (simp [*]; done)), H', ⟨by have := HJ1.out; have := HK2.out; omega⟩, ⟨by repeat (first | (with_reducible first | exact HB.out | apply below_alloc | apply pw_below_drewN | apply below_drew1) | exact HB.out)⟩⟩
          · rw [if_neg c7] at H
            have c7b0 : decide (x7_2 ≤ 4) = false := decide_eq_false c7
            clear c7
            simp only [Option.some.injEq, Prod.mk.injEq] at H
            obtain ⟨rfl, rfl, rfl⟩ := H
            go_wp2
            go_ret3
            exact ⟨by first | rfl | (simp [errW_none, errW_some] <;> rfl) | (simp [*, errW_none, errW_some] <;> rfl), by repeat (first | (with_reducible first | exact HB.out | apply below_alloc | apply pw_below_drewN | apply below_drew1) | exact HB.out)⟩

/-! ### souterrainref05_Segments: function 15 -/
theorem strOfNums_append (xs ys : List Int) : strOfNums (xs ++ ys) = strOfNums xs ++ strOfNums ys := by
  rw [ByteArray.ext_iff, ByteArray.data_append, ← Array.toList_inj, Array.toList_append, strOfNums_data, strOfNums_data, strOfNums_data, List.map_append]
theorem up_ {α : Type} {f : Nat → Option α} (hm : ∀ k, LeO (f k) (f (k + 1))) {r : α} {k : Nat} (h : f k = some r) : ∀ j, k ≤ j → f j = some r := by
  intro j hj
  induction j with
  | zero => rw [show k = 0 by omega] at h; exact h
  | succ j ih =>
    by_cases e : k = j + 1
    · subst e; exact h
    · exact hm j r (ih (by omega))
theorem of_round (k : Nat) (a n i : Int) (l : List Int) (hi : i < 8) (hi0 : 0 ≤ i) (h0 : 0 ≤ n) (h1 : n ≤ 99999999) (hl : l.length ≤ 100) :
    souterrainref05_Of.l0 (k + 1) a n (strOfNums l) i = souterrainref05_Of.l0 k a (n / 10) (strOfNums ((48 + n % 10) :: l)) (i + 1) := by
  have e1 : Int.tmod n 10 = n % 10 := by rw [Int.tmod_eq_emod_of_nonneg h0]
  have e2 : Int.tdiv n 10 = n / 10 := by rw [Int.tdiv_eq_ediv_of_nonneg h0]
  conv => lhs; unfold souterrainref05_Of.l0
  rw [if_pos hi, Option.bind_some, e1, e2, IntWalk.wrap64_in (48 + n % 10) ⟨by omega, by omega⟩, IntWalk.wrap64_in (n / 10) ⟨by omega, by omega⟩, IntWalk.wrap64_in (i + 1) ⟨by omega, by omega⟩, show (48 + n % 10) % 256 = 48 + n % 10 by omega,
    if_pos (by rw [strOfNums_size, strOfNums_size]; simp only [List.length_cons, List.length_nil]; omega), ← strOfNums_append]
  rfl
theorem of_end (k : Nat) (a n : Int) (l : List Int) (hl : l.length ≤ 100) (ha : a = 1 ∨ a = 2) :
    souterrainref05_Of.l0 (k + 1) a n (strOfNums l) 8 = some (strOfNums ((if a = 1 then 115 else 104) :: l)) := by
  conv => lhs; unfold souterrainref05_Of.l0
  have hs : 1 + (strOfNums l).size ≤ 9223372036854775807 := by rw [strOfNums_size]; omega
  rw [if_neg (by omega), if_pos hs, if_pos hs]
  rcases ha with rfl | rfl
  · rw [if_pos rfl, if_pos rfl, show (⟨#[115]⟩ : ByteArray) = strOfNums [115] from rfl, ← strOfNums_append]; rfl
  · rw [if_neg (by omega), if_neg (by omega), show (⟨#[104]⟩ : ByteArray) = strOfNums [104] from rfl, ← strOfNums_append]; rfl
theorem of_loop (k : Nat) (a n : Int) (ha : a = 1 ∨ a = 2) (h0 : 0 ≤ n) (h1 : n ≤ 99999999) : souterrainref05_Of.l0 (k + 9) a n ⟨#[]⟩ 0 = some (strOfNums (numberedL (if a = 1 then 115 else 104) n)) := by
  have e : ∀ a b : Int, 0 ≤ a → 0 ≤ b → n / a / b = n / (a * b) := fun a b ha hb => by rw [Int.ediv_ediv, if_neg (by omega), Int.sub_zero]
  rw [show (⟨#[]⟩ : ByteArray) = strOfNums [] from rfl]
  rw [of_round (k + 8) a n 0 _ (by omega) (by omega) h0 h1 (by simp), of_round (k + 7) a _ _ _ (by omega) (by omega) (by omega) (by omega) (by simp), of_round (k + 6) a _ _ _ (by omega) (by omega) (by omega) (by omega) (by simp),
    of_round (k + 5) a _ _ _ (by omega) (by omega) (by omega) (by omega) (by simp), of_round (k + 4) a _ _ _ (by omega) (by omega) (by omega) (by omega) (by simp), of_round (k + 3) a _ _ _ (by omega) (by omega) (by omega) (by omega) (by simp),
    of_round (k + 2) a _ _ _ (by omega) (by omega) (by omega) (by omega) (by simp), of_round (k + 1) a _ _ _ (by omega) (by omega) (by omega) (by omega) (by simp)]
  rw [show (0 : Int) + 1 + 1 + 1 + 1 + 1 + 1 + 1 + 1 = 8 by omega, of_end k a _ _ (by simp) ha, numberedL_eq]
  refine congrArg (fun l => some (strOfNums l)) ?_
  simp only [List.cons.injEq, and_true, true_and]
  and_intros <;> omega
theorem of_f (k : Nat) (a n : Int) : souterrainref05_Of.f (k + 10) a n = some (strOfNums (ofL a n)) := by
  have hE : souterrainref05_Of.j0 (k + 10) a n true = some (strOfNums []) := by
    rw [souterrainref05_Of.j0, if_pos rfl]; rfl
  unfold souterrainref05_Of.f ofL
  by_cases c1 : n < 0
  · rw [if_pos c1, if_pos c1, hE]
  rw [if_neg c1, if_neg c1]
  by_cases c2 : n > 99999999
  · rw [if_pos c2, if_pos c2, hE]
  rw [if_neg c2, if_neg c2]
  by_cases c3 : a < 1
  · have n1 : ¬ a = 1 := by omega
    have n2 : ¬ a = 2 := by omega
    have n3 : ¬ a = 3 := by omega
    have n4 : ¬ a = 4 := by omega
    rw [if_pos c3, hE, if_neg n1, if_neg n2, if_neg n3, if_neg n4, ite_self]
  rw [if_neg c3]
  by_cases c4 : a > 4
  · have n1 : ¬ a = 1 := by omega
    have n2 : ¬ a = 2 := by omega
    have n3 : ¬ a = 3 := by omega
    have n4 : ¬ a = 4 := by omega
    rw [if_pos c4, hE, if_neg n1, if_neg n2, if_neg n3, if_neg n4, ite_self]
  rw [if_neg c4]
  by_cases c5 : a > 2
  · have n1 : ¬ a = 1 := by omega
    have n2 : ¬ a = 2 := by omega
    rw [if_pos c5, if_neg n1, if_neg n2]
    by_cases c6 : n = 0
    · subst c6
      rw [if_pos rfl, show decide ((0 : Int) > 0) = false from rfl]
      rw [souterrainref05_Of.j0, if_neg (by decide)]
      by_cases c7 : a = 3
      · rw [if_pos c7, if_pos c7]; rfl
      · have n4 : a = 4 := by omega
        rw [if_neg c7, if_neg c7, if_pos n4, if_pos n4]; rfl
    · rw [if_neg c6, decide_eq_true (show n > 0 by omega), hE]
  · rw [if_neg c5]
    rw [souterrainref05_Of.j0, if_neg (by decide), if_neg (show ¬ a = 3 by omega), if_neg (show ¬ a = 4 by omega), of_loop k a n (by omega) (by omega) (by omega)]
    by_cases c7 : a = 1
    · rw [if_pos c7, if_pos c7]
    · rw [if_neg c7, if_neg c7, if_pos (show a = 2 by omega)]
/-- Whatever Of tells, told again. -/
theorem parse_of (a n : Int) (h : ofL a n ≠ []) : parseF (strOfNums (ofL a n)) = (a, n, true) := by
  unfold ofL at h ⊢
  by_cases c1 : n < 0
  · rw [if_pos c1] at h; exact absurd rfl h
  by_cases c2 : 99999999 < n
  · rw [if_neg c1, if_pos c2] at h; exact absurd rfl h
  rw [if_neg c1, if_neg c2] at h ⊢
  by_cases c3 : a = 1
  · rw [if_pos c3, c3]; exact parse_numbered 115 1 n (.inl ⟨rfl, rfl⟩) (by omega) (by omega)
  by_cases c4 : a = 2
  · rw [if_neg c3, if_pos c4, c4]; exact parse_numbered 104 2 n (.inr ⟨rfl, rfl⟩) (by omega) (by omega)
  rw [if_neg c3, if_neg c4] at h ⊢
  by_cases c5 : n = 0
  · rw [if_pos c5] at h ⊢
    by_cases c6 : a = 3
    · rw [if_pos c6, c6, c5]; exact parse_m
    by_cases c7 : a = 4
    · rw [if_neg c6, if_pos c7, c7, c5, parseF, str_toList]; rfl
    · rw [if_neg c6, if_neg c7] at h; exact absurd rfl h
  · rw [if_neg c5] at h; exact absurd rfl h
theorem toList_inj {s t : ByteArray} (h : s.toList = t.toList) : s = t := by
  rw [ByteArray.toList_eq, ByteArray.toList_eq] at h
  exact ByteArray.ext (Array.toList_inj.1 h)
/-- The search over the kinds. -/
theorem kinds (k : Nat) (s : ByteArray) (v : Int) (hs : ¬ s.toList = []) (r : Int × Int × Bool)
    (hr : (if (strOfNums (ofL 1 v)).toList = s.toList then (1, v, true) else if (strOfNums (ofL 2 v)).toList = s.toList then (2, v, true) else if (strOfNums (ofL 3 0)).toList = s.toList then (3, 0, true) else if (strOfNums (ofL 4 0)).toList = s.toList then (4, 0, true) else ((0 : Int), (0 : Int), false)) = r) :
    souterrainref05_Parse.j1 (k + 17) s v = some r := by
  have w1 : wrap64 (1 + 1) = 2 := IntWalk.wrap64_in _ ⟨by omega, by omega⟩
  have w2 : wrap64 (2 + 1) = 3 := IntWalk.wrap64_in _ ⟨by omega, by omega⟩
  have w3 : wrap64 (3 + 1) = 4 := IntWalk.wrap64_in _ ⟨by omega, by omega⟩
  have w4 : wrap64 (4 + 1) = 5 := IntWalk.wrap64_in _ ⟨by omega, by omega⟩
  rw [souterrainref05_Parse.j1, souterrainref05_Parse.l1, if_pos (by decide), if_neg (by decide), if_neg hs, show k + 15 = k + 5 + 10 by omega, of_f, Option.bind_some]
  by_cases c1 : (strOfNums (ofL 1 v)).toList = s.toList
  · rw [if_pos c1] at hr ⊢; rw [hr]
  rw [if_neg c1] at hr ⊢
  rw [w1, show k + 5 + 10 = k + 14 + 1 by omega, souterrainref05_Parse.l1, if_pos (by decide), if_neg (by decide), if_neg hs, show k + 14 = k + 4 + 10 by omega, of_f, Option.bind_some]
  by_cases c2 : (strOfNums (ofL 2 v)).toList = s.toList
  · rw [if_pos c2] at hr ⊢; rw [hr]
  rw [if_neg c2] at hr ⊢
  rw [w2, show k + 4 + 10 = k + 13 + 1 by omega, souterrainref05_Parse.l1, if_pos (by decide), if_pos (by decide), if_neg hs, show k + 13 = k + 3 + 10 by omega, of_f, Option.bind_some]
  by_cases c3 : (strOfNums (ofL 3 0)).toList = s.toList
  · rw [if_pos c3] at hr ⊢; rw [hr]
  rw [if_neg c3] at hr ⊢
  rw [w3, show k + 3 + 10 = k + 12 + 1 by omega, souterrainref05_Parse.l1, if_pos (by decide), if_pos (by decide), if_neg hs, show k + 12 = k + 2 + 10 by omega, of_f, Option.bind_some]
  by_cases c4 : (strOfNums (ofL 4 0)).toList = s.toList
  · rw [if_pos c4] at hr ⊢; rw [hr]
  rw [if_neg c4] at hr ⊢
  rw [w4, show k + 2 + 10 = k + 11 + 1 by omega, souterrainref05_Parse.l1, if_neg (by decide), hr]
theorem kinds_empty (k : Nat) (s : ByteArray) (v : Int) (hs : s.toList = []) : souterrainref05_Parse.j1 (k + 17) s v = some (0, 0, false) := by
  have w1 : wrap64 (1 + 1) = 2 := IntWalk.wrap64_in _ ⟨by omega, by omega⟩
  have w2 : wrap64 (2 + 1) = 3 := IntWalk.wrap64_in _ ⟨by omega, by omega⟩
  have w3 : wrap64 (3 + 1) = 4 := IntWalk.wrap64_in _ ⟨by omega, by omega⟩
  have w4 : wrap64 (4 + 1) = 5 := IntWalk.wrap64_in _ ⟨by omega, by omega⟩
  rw [souterrainref05_Parse.j1, souterrainref05_Parse.l1, if_pos (by decide), if_neg (by decide), if_pos hs, w1, souterrainref05_Parse.l1, if_pos (by decide), if_neg (by decide), if_pos hs,
    w2, souterrainref05_Parse.l1, if_pos (by decide), if_pos (by decide), if_pos hs, w3, souterrainref05_Parse.l1, if_pos (by decide), if_pos (by decide), if_pos hs, w4, souterrainref05_Parse.l1, if_neg (by decide)]
/-- Where the number does not matter. -/
theorem digits_any (K : Nat) (s : ByteArray) (r : Int × Int × Bool) (hr : ∀ v, souterrainref05_Parse.j1 K s v = some r) : ∀ (m : Nat) (i v : Int), i + m = 9 → 1 ≤ i → souterrainref05_Parse.l0 (K + m + 1) s v i = some r
  | 0, i, v, hi, h1 => by
    rw [souterrainref05_Parse.l0, if_neg (show ¬ i < 9 by omega), ite_self]; exact hr v
  | m + 1, i, v, hi, h1 => by
    rw [souterrainref05_Parse.l0]
    by_cases c : i < (s.size : Int)
    · rw [if_pos c, if_pos (by omega), if_pos (by omega), IntWalk.wrap64_in (i + 1) ⟨by omega, by omega⟩]
      exact digits_any K s r hr m (i + 1) _ (by omega) (by omega)
    · rw [if_neg c]
      exact up_ (fun k => (souterrainref05_Parse.mono_l k).1 s v) (hr v) _ (by omega)
theorem digit (k : Nat) (s : ByteArray) (n p i : Int) (hp : 0 < p) (hn : 0 ≤ n) (hn2 : n ≤ 99999999) (hi : 0 ≤ i) (hi2 : i < 9) (hs : i < (s.size : Int)) (hb : bt s i = 48 + n / p % 10) :
    souterrainref05_Parse.l0 (k + 1) s (n / (p * 10)) i = souterrainref05_Parse.l0 k s (n / p) (i + 1) := by
  have hd : n / (p * 10) = n / p / 10 := by rw [Int.ediv_ediv, if_neg (by omega), Int.sub_zero]
  have h0 : 0 ≤ n / p := Int.ediv_nonneg hn (by omega)
  have h1 : n / p ≤ n := Int.ediv_le_self _ hn
  rw [souterrainref05_Parse.l0, if_pos hs, if_pos hi2, if_pos hi, hb, hd]
  generalize n / p = q at h0 h1
  have e : Int.tmod (q % 10) 10 = q % 10 := by rw [Int.tmod_eq_emod_of_nonneg (by omega)]; omega
  rw [IntWalk.wrap64_in (48 + q % 10) ⟨by omega, by omega⟩, show 48 + q % 10 - 48 = q % 10 by omega, IntWalk.wrap64_in (q % 10) ⟨by omega, by omega⟩, e, IntWalk.wrap64_in (10 * (q / 10)) ⟨by omega, by omega⟩, IntWalk.wrap64_in (10 * (q / 10) + q % 10) ⟨by omega, by omega⟩, IntWalk.wrap64_in (i + 1) ⟨by omega, by omega⟩,
    show 10 * (q / 10) + q % 10 = q by omega]
theorem numbered_size (c n : Int) : (strOfNums (numberedL c n)).size = 9 := by rw [strOfNums_size, numberedL_eq]; rfl
theorem parse_f (k : Nat) (s : ByteArray) : souterrainref05_Parse.f (k + 40) s = some (parseF s) := by
  unfold souterrainref05_Parse.f
  rcases parse_spec s with h | ⟨hs, h⟩ | ⟨hs, h⟩ | ⟨c, kind, n, hc, h0, h1, h, hs⟩
  · rw [h, show k + 40 = (k + 14 + 17) + 8 + 1 by omega]
    refine digits_any _ s _ (fun v => ?_) 8 1 0 (by omega) (by omega)
    by_cases he : s.toList = []
    · exact kinds_empty _ s v he
    · have no : ∀ a w, ¬ (strOfNums (ofL a w)).toList = s.toList := fun a w e => by
        have e2 := toList_inj e
        have hne : ofL a w ≠ [] := fun e3 => he (by rw [← e, e3]; rw [str_toList]; rfl)
        have := parse_of a w hne
        rw [e2, h] at this
        cases this
      exact kinds _ s v he _ (by rw [if_neg (no 1 v), if_neg (no 2 v), if_neg (no 3 0), if_neg (no 4 0)])
  · rw [h, show k + 40 = (k + 14 + 17) + 8 + 1 by omega]
    refine digits_any _ s _ (fun v => ?_) 8 1 0 (by omega) (by omega)
    have no : ∀ a w, (a = 1 ∨ a = 2) → ¬ (strOfNums (ofL a w)).toList = s.toList := fun a w ha e => by
      have hne : ofL a w ≠ [] := fun e3 => by rw [hs, e3, str_toList] at e; cases e
      have := parse_of a w hne
      rw [toList_inj e, h] at this
      injection this with e4; omega
    refine kinds _ s v (by rw [hs]; simp) _ ?_
    rw [if_neg (no 1 v (.inl rfl)), if_neg (no 2 v (.inr rfl)), if_pos (by rw [hs, str_toList]; rfl)]
  · rw [h, show k + 40 = (k + 14 + 17) + 8 + 1 by omega]
    refine digits_any _ s _ (fun v => ?_) 8 1 0 (by omega) (by omega)
    have no : ∀ a w, (a = 1 ∨ a = 2 ∨ a = 3) → ¬ (strOfNums (ofL a w)).toList = s.toList := fun a w ha e => by
      have hne : ofL a w ≠ [] := fun e3 => by rw [hs, e3, str_toList] at e; cases e
      have := parse_of a w hne
      rw [toList_inj e, h] at this
      injection this with e4; omega
    refine kinds _ s v (by rw [hs]; simp) _ ?_
    rw [if_neg (no 1 v (.inl rfl)), if_neg (no 2 v (.inr (.inl rfl))), if_neg (no 3 0 (.inr (.inr rfl))), if_pos (by rw [hs, str_toList]; rfl)]
  · subst hs
    have hr : ∀ x ∈ numberedL c n, 0 ≤ x ∧ x ≤ 255 := bytes_range c n (by omega) (by omega) h0
    have hbt := bt_str hr
    have hz : (strOfNums (numberedL c n)).size = 9 := numbered_size c n
    have e : ∀ a b : Int, 0 ≤ a → 0 ≤ b → n / a / b = n / (a * b) := fun a b ha hb => by rw [Int.ediv_ediv, if_neg (by omega), Int.sub_zero]
    have b1 : bt (strOfNums (numberedL c n)) 1 = 48 + n / 10000000 % 10 := by rw [hbt, numberedL_eq]; rfl
    have b2 : bt (strOfNums (numberedL c n)) 2 = 48 + n / 1000000 % 10 := by rw [hbt, numberedL_eq]; rfl
    have b3 : bt (strOfNums (numberedL c n)) 3 = 48 + n / 100000 % 10 := by rw [hbt, numberedL_eq]; rfl
    have b4 : bt (strOfNums (numberedL c n)) 4 = 48 + n / 10000 % 10 := by rw [hbt, numberedL_eq]; rfl
    have b5 : bt (strOfNums (numberedL c n)) 5 = 48 + n / 1000 % 10 := by rw [hbt, numberedL_eq]; rfl
    have b6 : bt (strOfNums (numberedL c n)) 6 = 48 + n / 100 % 10 := by rw [hbt, numberedL_eq]; rfl
    have b7 : bt (strOfNums (numberedL c n)) 7 = 48 + n / 10 % 10 := by rw [hbt, numberedL_eq]; rfl
    have b8 : bt (strOfNums (numberedL c n)) 8 = 48 + n / 1 % 10 := by rw [hbt, numberedL_eq, Int.ediv_one]; rfl
    have d0 : (0 : Int) = n / (10000000 * 10) := by omega
    rw [d0, digit (k + 39) _ n 10000000 1 (by omega) h0 h1 (by omega) (by omega) (by rw [hz]; omega) b1, show (10000000 : Int) = 1000000 * 10 by omega, show (1 : Int) + 1 = 2 by omega,
      digit (k + 38) _ n 1000000 2 (by omega) h0 h1 (by omega) (by omega) (by rw [hz]; omega) b2, show (1000000 : Int) = 100000 * 10 by omega, show (2 : Int) + 1 = 3 by omega,
      digit (k + 37) _ n 100000 3 (by omega) h0 h1 (by omega) (by omega) (by rw [hz]; omega) b3, show (100000 : Int) = 10000 * 10 by omega, show (3 : Int) + 1 = 4 by omega,
      digit (k + 36) _ n 10000 4 (by omega) h0 h1 (by omega) (by omega) (by rw [hz]; omega) b4, show (10000 : Int) = 1000 * 10 by omega, show (4 : Int) + 1 = 5 by omega,
      digit (k + 35) _ n 1000 5 (by omega) h0 h1 (by omega) (by omega) (by rw [hz]; omega) b5, show (1000 : Int) = 100 * 10 by omega, show (5 : Int) + 1 = 6 by omega,
      digit (k + 34) _ n 100 6 (by omega) h0 h1 (by omega) (by omega) (by rw [hz]; omega) b6, show (100 : Int) = 10 * 10 by omega, show (6 : Int) + 1 = 7 by omega,
      digit (k + 33) _ n 10 7 (by omega) h0 h1 (by omega) (by omega) (by rw [hz]; omega) b7, show n / 10 = n / (1 * 10) by rw [Int.one_mul], show (7 : Int) + 1 = 8 by omega,
      digit (k + 32) _ n 1 8 (by omega) h0 h1 (by omega) (by omega) (by rw [hz]; omega) b8, show (8 : Int) + 1 = 9 by omega, Int.ediv_one]
    rw [souterrainref05_Parse.l0, if_neg (by rw [hz]; omega), show k + 31 = k + 14 + 17 by omega, h]
    refine kinds _ _ n (by rw [str_toList, numberedL_eq]; simp) _ ?_
    rcases hc with ⟨rfl, rfl⟩ | ⟨rfl, rfl⟩
    · rw [if_pos (by rw [ofL, if_neg (by omega), if_neg (by omega), if_pos rfl])]
    · rw [if_neg ?_, if_pos (by rw [ofL, if_neg (by omega), if_neg (by omega), if_neg (by omega), if_pos rfl])]
      rw [ofL, if_neg (by omega), if_neg (by omega), if_pos rfl, str_toList, str_toList, numberedL_eq, numberedL_eq]
      intro e5
      injection e5 with e6
      exact absurd e6 (by decide)
theorem rparse_calls (s : ByteArray) (w : World) : Calls Try.prog 10 #[.string s] w fun e w' => e = .returned (.tuple #[.int .i64 (parseF s).1, .int .i64 (parseF s).2.1, .bool (parseF s).2.2]) ∧ Below w.heap.size w w' :=
  souterrainref05_Parse.calls 40 s (parseF s).1 (parseF s).2.1 (parseF s).2.2 w (parse_f 0 s)
def souterrainref05_Segments.f (l0 : List ByteArray) : Option ((List Int)) := if l0.length < 17592186044415 then some (rsegsF parseF l0) else none
theorem souterrainref05_Segments.calls (A0 : Option Addr) (c0 : Nat) (l0 : List ByteArray) (r : List Int) (w : World) (hr0 : Kd.C Kd.string w A0 l0.length l0) (hc0 : l0.length ≤ c0) (h : souterrainref05_Segments.f l0 = some r) :
    Calls Try.prog 15 #[.slice A0 l0.length c0] w fun e w' => ∃ v0_ : Value, e = .returned (v0_) ∧ Kd.R (Kd.int .i64) 3 w' w.heap.size (fun _ => True) v0_ r ∧ Below w.heap.size w w' := by
  unfold souterrainref05_Segments.f at h
  split at h
  · obtain rfl := Option.some.inj h
    refine (rsegs_calls parseF rparse_calls A0 l0.length c0 l0 w hr0 hc0 (by assumption)).mono ?_
    rintro e w' ⟨v, he, hown, hb⟩
    exact ⟨v, he, ⟨fun _ _ => trivial, _, hown, reps_nums _ _ _ _⟩, hb⟩
  · cases h

end Go.Proofs.Ytgolccldopofbaa.PNameTells
