-- Printed by wip/givenprint.py of this repository: the printer's run, with contracts of my own for some functions.
import Derived.Test.YtgolccldopofbaaPNameTellsx0
namespace Go.Proofs.Ytgolccldopofbaa.PNameTells
open Go.RowKit Go.Proofs.YtgolccldopofbaaW.PrintWords Go.Proofs.YtgolccldopofbaaW.PrintLast Go.Proofs.YtgolccldopofbaaW.PrintMore
attribute [local go_sem] max2_int min2_int max_two min_two max_three min_three max_four min_four   -- for this text's walks alone
set_option linter.unusedVariables false
set_option linter.unusedSimpArgs false

-- NOT PRINTED: function 16 (name_number)

/-! ### name_Parse: function 9 -/
def name_Parse.f (a0 : ByteArray) : Option (Int × Int × Bool) := some (parseF a0)
theorem name_Parse.calls (a0 : ByteArray) (r1 : Int) (r2 : Int) (r3 : Bool) (w : World) (h : name_Parse.f a0 = some (r1, r2, r3)) :
    Calls Try.prog 9 #[.string a0] w fun e w' => e = .returned (.tuple #[.int .i64 r1, .int .i64 r2, .bool r3]) ∧ Below w.heap.size w w' := by
  have h := Option.some.inj h
  have hp := parse_calls a0 w
  rw [h] at hp
  exact hp

/-! ### name_numbered: function 17 -/
def name_numbered.f (a0 : ByteArray) (a1 : Int) : Option (ByteArray) := if a0.size = 1 then (if 0 ≤ a1 then (if a1 ≤ 99999999 then some (strOfNums (numberedL (bt a0 0) a1)) else none) else none) else none
theorem name_numbered.calls (a0 : ByteArray) (a1 : Int) (r : ByteArray) (w : World) (h : name_numbered.f a0 a1 = some r) :
    Calls Try.prog 17 #[.string a0, .int .i64 a1] w fun e w' => e = .returned (.string r) ∧ Below w.heap.size w w' := by
  unfold name_numbered.f at h
  split at h
  · split at h
    · split at h
      · obtain rfl := Option.some.inj h
        exact numbered_calls a0 (by assumption) a1 (by assumption) (by assumption) w
      · cases h
    · cases h
  · cases h

/-! ### name_Of: function 11 -/
def name_Of.j0 : Nat → Int → Int → Bool → Option (ByteArray)
  | 0, _, _, _ => none
  | k + 1, x0, x1, x5 => if x5 = true then (some (⟨#[]⟩ : ByteArray)) else (if x0 = 1 then ((name_numbered.f (⟨#[115]⟩ : ByteArray) x1).bind fun t101 => (some t101)) else (if x0 = 2 then ((name_numbered.f (⟨#[104]⟩ : ByteArray) x1).bind fun t102 => (some t102)) else (if x1 = 0 then (if x0 = 3 then (some (⟨#[109]⟩ : ByteArray)) else (if x0 = 4 then (some (⟨#[116]⟩ : ByteArray)) else (some (⟨#[]⟩ : ByteArray)))) else (some (⟨#[]⟩ : ByteArray)))))
def name_Of.f (k : Nat) (a0 : Int) (a1 : Int) : Option (ByteArray) := if a1 < 0 then (name_Of.j0 k a0 a1 (decide (a1 < 0))) else (name_Of.j0 k a0 a1 (decide (a1 > 99999999)))
theorem name_Of.mono_l : ∀ k, (∀ y0 y1 y2, LeO (name_Of.j0 k y0 y1 y2) (name_Of.j0 (k + 1) y0 y1 y2))
  | 0 => fun _ _ _ r h => by simp [name_Of.j0] at h
  | k + 1 => by
    have ih0 := name_Of.mono_l k
    · intro y0 y1 y2
      unfold name_Of.j0
      repeat' first
      | (with_reducible exact ih0 _ _ _)
      | (with_reducible exact LeO.refl _)
      | (with_reducible exact LeO.none _)
      | (with_reducible refine LeO.ite ?_ ?_)
      | (with_reducible refine LeO.bind ?_ (fun _ => ?_))
      | exact ih0 _ _ _
      | exact LeO.none _
      | refine LeO.ite ?_ ?_
      | refine LeO.bind ?_ (fun _ => ?_)
theorem name_Of.mono : ∀ a0 a1 k, LeO (name_Of.f k a0 a1) (name_Of.f (k + 1) a0 a1) := by
  intro a0 a1 k
  have ih0 := name_Of.mono_l k
  unfold name_Of.f
  repeat' first
      | (with_reducible exact ih0 _ _ _)
      | (with_reducible exact LeO.refl _)
      | (with_reducible exact LeO.none _)
      | (with_reducible refine LeO.ite ?_ ?_)
      | (with_reducible refine LeO.bind ?_ (fun _ => ?_))
      | exact ih0 _ _ _
      | exact LeO.none _
      | refine LeO.ite ?_ ?_
      | refine LeO.bind ?_ (fun _ => ?_)
set_option maxHeartbeats 8000000 in
set_option maxRecDepth 100000 in
theorem name_Of.calls (k : Nat) (a0 : Int) (a1 : Int) (r : ByteArray) (w : World) (h : name_Of.f k a0 a1 = some r) :
    Calls Try.prog 11 #[.int .i64 a0, .int .i64 a1] w fun e w' => e = .returned (.string r) ∧ Below w.heap.size w w' := by
  have HB := Aside0.mk (Below.refl w.heap.size w)
  have H : (if a1 < 0 then (name_Of.j0 k a0 a1 (decide (a1 < 0))) else (name_Of.j0 k a0 a1 (decide (a1 > 99999999)))) = some r := h
  clear h
  have HC3 := Aside0.mk H
  clear H
  go_enter Try.func11, Try.ntmps11
  go_upto_if 5 with (fail)
  go_cut [5] (fun v5 wc => ∃ (kq : Nat) (x5_2 : Bool), v5 = .bool x5_2 ∧ Aside0 (name_Of.j0 kq a0 a1 x5_2 = some r) ∧ Aside0 (kq ≤ k) ∧ Aside0 (Below w.heap.size w wc))
  case first =>
    have H := HC3.out
    clear HC3
    by_cases c4 : a1 < 0
    · rw [if_pos c4] at H
      have c4b0 : decide (a1 < 0) = true := decide_eq_true c4
      clear c4
      (first | rw [c4b0] | (simp only [i64_w, i32_w]; rw [c4b0]) | skip)
      have H' := Aside0.mk H
      clear H
      go_wp2
      go_meet
      case rel => exact ⟨_, (decide (a1 < 0)), (by first | rfl | (simp; done) | (simp [*]; done)), H', ⟨by first | omega | exact Nat.le_refl _⟩, ⟨by repeat (first | (with_reducible first | exact HB.out | apply below_alloc | apply pw_below_drewN | apply below_drew1) | exact HB.out)⟩⟩
    · rw [if_neg c4] at H
      have c4b0 : decide (a1 < 0) = false := decide_eq_false c4
      clear c4
      (first | rw [c4b0] | (simp only [i64_w, i32_w]; rw [c4b0]) | skip)
      have H' := Aside0.mk H
      clear H
      go_wp2
      go_meet
      case rel => exact ⟨_, (decide (a1 > 99999999)), (by first | rfl | (simp; done) | (simp [*]; done)), H', ⟨by first | omega | exact Nat.le_refl _⟩, ⟨by repeat (first | (with_reducible first | exact HB.out | apply below_alloc | apply pw_below_drewN | apply below_drew1) | exact HB.out)⟩⟩
  case rest =>
    clear HC3
    try clear c1
    try clear p2
    try clear c4
    try clear c4b0
    obtain ⟨kq, x5_2, rfl, HA, HJ2, HB⟩ := hcut
    cases kq with
    | zero => exact absurd HA.out (by simp [name_Of.j0])
    | succ kj2 =>
      have H := HA.out
      clear HA
      simp only [name_Of.j0] at H
      by_cases c5 : x5_2 = true
      · subst c5
        have H1 : (some (⟨#[]⟩ : ByteArray)) = some r := by rw [if_pos rfl] at H; exact H
        clear H
        have H := H1
        clear H1
        obtain rfl := Option.some.inj H
        go_wp2
        go_ret
        exact ⟨by first | rfl | (simp [errW_none, errW_some] <;> rfl) | (simp [*, errW_none, errW_some] <;> rfl), by repeat (first | (with_reducible first | exact HB.out | apply below_alloc | apply pw_below_drewN | apply below_drew1) | exact HB.out)⟩
      · replace c5 := Bool.eq_false_iff.mpr c5
        subst c5
        have H1 : (if a0 = 1 then ((name_numbered.f (⟨#[115]⟩ : ByteArray) a1).bind fun t101 => (some t101)) else (if a0 = 2 then ((name_numbered.f (⟨#[104]⟩ : ByteArray) a1).bind fun t102 => (some t102)) else (if a1 = 0 then (if a0 = 3 then (some (⟨#[109]⟩ : ByteArray)) else (if a0 = 4 then (some (⟨#[116]⟩ : ByteArray)) else (some (⟨#[]⟩ : ByteArray)))) else (some (⟨#[]⟩ : ByteArray))))) = some r := by rw [if_neg (show ¬ (false = true) by decide)] at H; exact H
        clear H
        have H := H1
        clear H1
        by_cases c6 : a0 = 1
        · rw [if_pos c6] at H
          have c6b0 : (a0 == 1) = true := beq_iff_eq.mpr c6
          have c6b1 : (a0 != 1) = false := bne_eq_false_iff_eq.mpr c6
          clear c6
          replace H := Option.bind_eq_some_iff.mp H
          obtain ⟨t101, A70, H⟩ := H
          replace H : (some t101) = some r := H
          have A7 := Aside0.mk A70
          clear A70
          obtain rfl := Option.some.inj H
          go_wp2_with (first | ((with_reducible refine gate_callee (f := 17) rfl ?_); refine goesL_ (some 14) rfl rfl Try.func17 (by kernel_rfl) rfl #[.string (⟨#[115]⟩ : ByteArray), .int .i64 a1] rfl (by (try simp only [List.map_toArray, List.map_cons, List.map_nil]); first | done | rfl | (simp only [List.length_drop, List.length_take]; rfl)) ?_; (with_reducible refine (name_numbered.calls (⟨#[115]⟩ : ByteArray) a1 t101 _ A7.out).mono ?_); rintro e w8 ⟨rfl, hb⟩; refine ⟨_, rfl, ?_⟩; have n0_ := Aside0.mk (below_step (by repeat (first | (with_reducible first | exact HB.out | apply below_alloc | apply pw_below_drewN | apply below_drew1) | exact HB.out)) hb); clear HB; have HB := n0_; clear n0_; (try clear hb); (try clear hb2); (try clear hk); (try clear hi)))
          go_ret
          exact ⟨by first | rfl | (simp [errW_none, errW_some] <;> rfl) | (simp [*, errW_none, errW_some] <;> rfl), by repeat (first | (with_reducible first | exact HB.out | apply below_alloc | apply pw_below_drewN | apply below_drew1) | exact HB.out)⟩
        · rw [if_neg c6] at H
          have c6b0 : (a0 == 1) = false := beq_eq_false_iff_ne.mpr c6
          have c6b1 : (a0 != 1) = true := bne_iff_ne.mpr c6
          by_cases c9 : a0 = 2
          · rw [if_pos c9] at H
            have c9b0 : (a0 == 2) = true := beq_iff_eq.mpr c9
            have c9b1 : (a0 != 2) = false := bne_eq_false_iff_eq.mpr c9
            clear c9
            replace H := Option.bind_eq_some_iff.mp H
            obtain ⟨t102, A100, H⟩ := H
            replace H : (some t102) = some r := H
            have A10 := Aside0.mk A100
            clear A100
            obtain rfl := Option.some.inj H
            go_wp2_with (first | ((with_reducible refine gate_callee (f := 17) rfl ?_); refine goesL_ (some 19) rfl rfl Try.func17 (by kernel_rfl) rfl #[.string (⟨#[104]⟩ : ByteArray), .int .i64 a1] rfl (by (try simp only [List.map_toArray, List.map_cons, List.map_nil]); first | done | rfl | (simp only [List.length_drop, List.length_take]; rfl)) ?_; (with_reducible refine (name_numbered.calls (⟨#[104]⟩ : ByteArray) a1 t102 _ A10.out).mono ?_); rintro e w11 ⟨rfl, hb⟩; refine ⟨_, rfl, ?_⟩; have n0_ := Aside0.mk (below_step (by repeat (first | (with_reducible first | exact HB.out | apply below_alloc | apply pw_below_drewN | apply below_drew1) | exact HB.out)) hb); clear HB; have HB := n0_; clear n0_; (try clear hb); (try clear hb2); (try clear hk); (try clear hi)))
            go_ret
            exact ⟨by first | rfl | (simp [errW_none, errW_some] <;> rfl) | (simp [*, errW_none, errW_some] <;> rfl), by repeat (first | (with_reducible first | exact HB.out | apply below_alloc | apply pw_below_drewN | apply below_drew1) | exact HB.out)⟩
          · rw [if_neg c9] at H
            have c9b0 : (a0 == 2) = false := beq_eq_false_iff_ne.mpr c9
            have c9b1 : (a0 != 2) = true := bne_iff_ne.mpr c9
            by_cases c12 : a1 = 0
            · rw [if_pos c12] at H
              have c12b0 : (a1 == 0) = true := beq_iff_eq.mpr c12
              have c12b1 : (a1 != 0) = false := bne_eq_false_iff_eq.mpr c12
              clear c12
              by_cases c13 : a0 = 3
              · rw [if_pos c13] at H
                have c13b0 : (a0 == 3) = true := beq_iff_eq.mpr c13
                have c13b1 : (a0 != 3) = false := bne_eq_false_iff_eq.mpr c13
                clear c13
                obtain rfl := Option.some.inj H
                go_wp2
                go_ret
                exact ⟨by first | rfl | (simp [errW_none, errW_some] <;> rfl) | (simp [*, errW_none, errW_some] <;> rfl), by repeat (first | (with_reducible first | exact HB.out | apply below_alloc | apply pw_below_drewN | apply below_drew1) | exact HB.out)⟩
              · rw [if_neg c13] at H
                have c13b0 : (a0 == 3) = false := beq_eq_false_iff_ne.mpr c13
                have c13b1 : (a0 != 3) = true := bne_iff_ne.mpr c13
                by_cases c14 : a0 = 4
                · rw [if_pos c14] at H
                  have c14b0 : (a0 == 4) = true := beq_iff_eq.mpr c14
                  have c14b1 : (a0 != 4) = false := bne_eq_false_iff_eq.mpr c14
                  clear c14
                  obtain rfl := Option.some.inj H
                  go_wp2
                  go_ret
                  exact ⟨by first | rfl | (simp [errW_none, errW_some] <;> rfl) | (simp [*, errW_none, errW_some] <;> rfl), by repeat (first | (with_reducible first | exact HB.out | apply below_alloc | apply pw_below_drewN | apply below_drew1) | exact HB.out)⟩
                · rw [if_neg c14] at H
                  have c14b0 : (a0 == 4) = false := beq_eq_false_iff_ne.mpr c14
                  have c14b1 : (a0 != 4) = true := bne_iff_ne.mpr c14
                  obtain rfl := Option.some.inj H
                  go_wp2
                  go_ret
                  exact ⟨by first | rfl | (simp [errW_none, errW_some] <;> rfl) | (simp [*, errW_none, errW_some] <;> rfl), by repeat (first | (with_reducible first | exact HB.out | apply below_alloc | apply pw_below_drewN | apply below_drew1) | exact HB.out)⟩
            · rw [if_neg c12] at H
              have c12b0 : (a1 == 0) = false := beq_eq_false_iff_ne.mpr c12
              have c12b1 : (a1 != 0) = true := bne_iff_ne.mpr c12
              obtain rfl := Option.some.inj H
              go_wp2
              go_ret
              exact ⟨by first | rfl | (simp [errW_none, errW_some] <;> rfl) | (simp [*, errW_none, errW_some] <;> rfl), by repeat (first | (with_reducible first | exact HB.out | apply below_alloc | apply pw_below_drewN | apply below_drew1) | exact HB.out)⟩

/-! ### souterrainref05_SameInts: function 13 -/
def souterrainref05_SameInts.l0 : Nat → List Int → List Int → Int → Option (Bool)
  | 0, _, _, _ => none
  | k + 1, x0, x1, x5 => if x5 < (x0.length : Int) then (if 0 ≤ x5 then (if x5 < (x1.length : Int) then (if (rd x0 x5) = (rd x1 x5) then (souterrainref05_SameInts.l0 k x0 x1 (wrap64 (x5 + 1))) else (some false)) else (none)) else (none)) else (some true)
def souterrainref05_SameInts.f (k : Nat) (l0 : List Int) (l1 : List Int) : Option (Bool) := if (l0.length : Int) = (l1.length : Int) then (souterrainref05_SameInts.l0 k l0 l1 0) else (some false)
theorem souterrainref05_SameInts.mono_l : ∀ k, (∀ y0 y1 y2, LeO (souterrainref05_SameInts.l0 k y0 y1 y2) (souterrainref05_SameInts.l0 (k + 1) y0 y1 y2))
  | 0 => fun _ _ _ r h => by simp [souterrainref05_SameInts.l0] at h
  | k + 1 => by
    have ih0 := souterrainref05_SameInts.mono_l k
    · intro y0 y1 y2
      unfold souterrainref05_SameInts.l0
      repeat' first
      | (with_reducible exact ih0 _ _ _)
      | (with_reducible exact LeO.refl _)
      | (with_reducible exact LeO.none _)
      | (with_reducible refine LeO.ite ?_ ?_)
      | (with_reducible refine LeO.bind ?_ (fun _ => ?_))
      | exact ih0 _ _ _
      | exact LeO.none _
      | refine LeO.ite ?_ ?_
      | refine LeO.bind ?_ (fun _ => ?_)
theorem souterrainref05_SameInts.mono : ∀ a0 a1 k, LeO (souterrainref05_SameInts.f k a0 a1) (souterrainref05_SameInts.f (k + 1) a0 a1) := by
  intro a0 a1 k
  have ih0 := souterrainref05_SameInts.mono_l k
  unfold souterrainref05_SameInts.f
  repeat' first
      | (with_reducible exact ih0 _ _ _)
      | (with_reducible exact LeO.refl _)
      | (with_reducible exact LeO.none _)
      | (with_reducible refine LeO.ite ?_ ?_)
      | (with_reducible refine LeO.bind ?_ (fun _ => ?_))
      | exact ih0 _ _ _
      | exact LeO.none _
      | refine LeO.ite ?_ ?_
      | refine LeO.bind ?_ (fun _ => ?_)
set_option maxHeartbeats 8000000 in
set_option maxRecDepth 100000 in
theorem souterrainref05_SameInts.calls (k : Nat) (A0 : Option Addr) (c0 : Nat) (l0 : List Int) (A1 : Option Addr) (c1 : Nat) (l1 : List Int) (r : Bool) (w : World) (hr0 : Kd.C (Kd.int .i64) w A0 l0.length l0) (hc0 : l0.length ≤ c0) (hr1 : Kd.C (Kd.int .i64) w A1 l1.length l1) (hc1 : l1.length ≤ c1) (h : souterrainref05_SameInts.f k l0 l1 = some r) :
    Calls Try.prog 13 #[.slice A0 l0.length c0, .slice A1 l1.length c1] w fun e w' => e = .returned (.bool r) ∧ Drawn0 w w' := by
  have HR0 := Aside0.mk hr0
  have HC0 := Aside0.mk hc0
  clear hr0 hc0
  have HR1 := Aside0.mk hr1
  have HC1 := Aside0.mk hc1
  clear hr1 hc1
  have H : (if (l0.length : Int) = (l1.length : Int) then (souterrainref05_SameInts.l0 k l0 l1 0) else (some false)) = some r := h
  clear h
  by_cases c3 : (l0.length : Int) = (l1.length : Int)
  · rw [if_pos c3] at H
    have c3b0 : ((l0.length : Int) == (l1.length : Int)) = true := beq_iff_eq.mpr c3
    have c3b1 : ((l0.length : Int) != (l1.length : Int)) = false := bne_eq_false_iff_eq.mpr c3
    have c3b2 : (l0.length == l1.length) = true := by first | simpa using c3 | (simp at c3 ⊢; omega)
    clear c3
    have H' := Aside0.mk H
    clear H
    go_enter Try.func13, Try.ntmps13
    go_wp2
    repeat (go_quiet (fail); try go_wp2)
    go_loopg [5] k (fun kq v5 w' => ∃ (x5_1 : Int), v5 = .int .i64 x5_1 ∧ Aside0 (souterrainref05_SameInts.l0 kq l0 l1 x5_1 = some r) ∧ Aside0 (kq ≤ k) ∧ Drawn0 w w')
    case atStart => exact ⟨(0), (by first | rfl | (simp; done) | (simp [*]; done)), H', ⟨Nat.le_refl _⟩, by repeat (first | exact Drawn0.refl _ | apply Drawn0.step)⟩
    case round =>
      clear H'
      try clear c1
      try clear p2
      try clear c3
      try clear c3b0
      try clear c3b1
      try clear c3b2
      obtain ⟨x5_1, rfl, HA, HK1, ⟨m1, rfl⟩⟩ := hrel
      cases gk with
      | zero => exact absurd HA.out (by simp [souterrainref05_SameInts.l0])
      | succ k1 =>
        have H := HA.out
        clear HA
        simp only [souterrainref05_SameInts.l0] at H
        by_cases c4 : x5_1 < (l0.length : Int)
        · rw [if_pos c4] at H
          have c4b0 : decide (x5_1 < (l0.length : Int)) = true := decide_eq_true c4
          clear c4
          by_cases c5 : 0 ≤ x5_1
          · rw [if_pos c5] at H
            have c5b0 : decide (0 ≤ x5_1) = true := decide_eq_true c5
            clear c5
            by_cases c6 : x5_1 < (l1.length : Int)
            · rw [if_pos c6] at H
              have c6b0 : decide (x5_1 < (l1.length : Int)) = true := decide_eq_true c6
              clear c6
              by_cases c7 : (rd l0 x5_1) = (rd l1 x5_1)
              · rw [if_pos c7] at H
                have c7b0 : ((rd l0 x5_1) == (rd l1 x5_1)) = true := beq_iff_eq.mpr c7
                have c7b1 : ((rd l0 x5_1) != (rd l1 x5_1)) = false := bne_eq_false_iff_eq.mpr c7
                clear c7
                have H' := Aside0.mk H
                clear H
                have p103 : 0 ≤ (x5_1 : Int) := of_decide_eq_true (by first | (with_reducible assumption) | assumption)
                have q103 : x5_1 < (l0.length : Int) := of_decide_eq_true (by first | (with_reducible assumption) | assumption)
                obtain ⟨ad103, e103, hx103_0⟩ := Kd.at_int HR0.out x5_1 p103 q103
                cases e103
                replace p103 := eq_true p103
                replace q103 := eq_true q103
                have p104 : 0 ≤ (x5_1 : Int) := of_decide_eq_true (by first | (with_reducible assumption) | assumption)
                have q104 : x5_1 < (l1.length : Int) := of_decide_eq_true (by first | (with_reducible assumption) | assumption)
                obtain ⟨ad104, e104, hx104_0⟩ := Kd.at_int HR1.out x5_1 p104 q104
                cases e104
                replace p104 := eq_true p104
                replace q104 := eq_true q104
                go_wp2
                repeat (go_quiet (fail); try go_wp2)
                go_roundg k1
                case measure => have := HK1.out; omega
                case rel => exact ⟨(wrap64 (x5_1 + 1)), (by first | rfl | (simp; done) | (simp [*]; done)), H', ⟨by have := HK1.out; omega⟩, by repeat (first | exact Drawn0.refl _ | apply Drawn0.step)⟩
              · rw [if_neg c7] at H
                have c7b0 : ((rd l0 x5_1) == (rd l1 x5_1)) = false := beq_eq_false_iff_ne.mpr c7
                have c7b1 : ((rd l0 x5_1) != (rd l1 x5_1)) = true := bne_iff_ne.mpr c7
                obtain rfl := Option.some.inj H
                have p103 : 0 ≤ (x5_1 : Int) := of_decide_eq_true (by first | (with_reducible assumption) | assumption)
                have q103 : x5_1 < (l0.length : Int) := of_decide_eq_true (by first | (with_reducible assumption) | assumption)
                obtain ⟨ad103, e103, hx103_0⟩ := Kd.at_int HR0.out x5_1 p103 q103
                cases e103
                replace p103 := eq_true p103
                replace q103 := eq_true q103
                have p104 : 0 ≤ (x5_1 : Int) := of_decide_eq_true (by first | (with_reducible assumption) | assumption)
                have q104 : x5_1 < (l1.length : Int) := of_decide_eq_true (by first | (with_reducible assumption) | assumption)
                obtain ⟨ad104, e104, hx104_0⟩ := Kd.at_int HR1.out x5_1 p104 q104
                cases e104
                replace p104 := eq_true p104
                replace q104 := eq_true q104
                go_wp2
                repeat (go_quiet (fail); try go_wp2)
                go_ret
                exact ⟨by first | rfl | (simp; done) | (simp [*]; done), by repeat (first | exact Drawn0.refl _ | apply Drawn0.step)⟩
            · rw [if_neg c6] at H
              exact absurd H (by simp)
          · rw [if_neg c5] at H
            exact absurd H (by simp)
        · rw [if_neg c4] at H
          have c4b0 : decide (x5_1 < (l0.length : Int)) = false := decide_eq_false c4
          clear c4
          obtain rfl := Option.some.inj H
          go_wp2
          repeat (go_quiet (fail); try go_wp2)
          go_ret
          exact ⟨by first | rfl | (simp; done) | (simp [*]; done), by repeat (first | exact Drawn0.refl _ | apply Drawn0.step)⟩
  · rw [if_neg c3] at H
    have c3b0 : ((l0.length : Int) == (l1.length : Int)) = false := beq_eq_false_iff_ne.mpr c3
    have c3b1 : ((l0.length : Int) != (l1.length : Int)) = true := bne_iff_ne.mpr c3
    have c3b2 : (l0.length == l1.length) = false := by first | simpa using c3 | (simp at c3 ⊢; omega)
    obtain rfl := Option.some.inj H
    go_enter Try.func13, Try.ntmps13
    go_wp2
    repeat (go_quiet (fail); try go_wp2)
    go_ret
    exact ⟨by first | rfl | (simp; done) | (simp [*]; done), by repeat (first | exact Drawn0.refl _ | apply Drawn0.step)⟩

-- NOT PRINTED: function 38 (cmp_isNaN_int)

-- NOT PRINTED: function 28 (cmp_Less_int)

-- NOT PRINTED: function 22 (slices_insertionSortOrdered_int)

-- NOT PRINTED: function 33 (slices_siftDownOrdered_int)

-- NOT PRINTED: function 23 (slices_heapSortOrdered_int)

-- NOT PRINTED: function 31 (bits_Len32)

-- NOT PRINTED: function 32 (bits_Len64)

-- NOT PRINTED: function 21 (bits_Len)

-- NOT PRINTED: function 34 (slices_nextPowerOfTwo)

-- NOT PRINTED: function 35 (slices_xorshift_Next)

-- NOT PRINTED: function 24 (slices_breakPatternsOrdered_int)

-- NOT PRINTED: function 39 (slices_order2Ordered_int)

-- NOT PRINTED: function 37 (slices_medianOrdered_int)

-- NOT PRINTED: function 36 (slices_medianAdjacentOrdered_int)

-- NOT PRINTED: function 25 (slices_choosePivotOrdered_int)

-- NOT PRINTED: function 26 (slices_reverseRangeOrdered_int)

-- NOT PRINTED: function 27 (slices_partialInsertionSortOrdered_int)

-- NOT PRINTED: function 29 (slices_partitionEqualOrdered_int)

-- NOT PRINTED: function 30 (slices_partitionOrdered_int)

-- NOT PRINTED: function 20 (slices_pdqsortOrdered_int)

-- NOT PRINTED: function 18 (slices_Sort_int_int)

-- NOT PRINTED: function 19 (slices_Compact_int_int)

/-! ### name_Segments: function 14 -/
def name_Segments.f (l0 : List ByteArray) : Option ((List Int)) := if l0.length < 17592186044416 then some (segsF l0) else none
theorem name_Segments.calls (A0 : Option Addr) (c0 : Nat) (l0 : List ByteArray) (r : List Int) (w : World) (hr0 : Kd.C Kd.string w A0 l0.length l0) (hc0 : l0.length ≤ c0) (h : name_Segments.f l0 = some r) :
    Calls Try.prog 14 #[.slice A0 l0.length c0] w fun e w' => ∃ v0_ : Value, e = .returned (v0_) ∧ Kd.R (Kd.int .i64) 3 w' w.heap.size (fun _ => True) v0_ r ∧ Below w.heap.size w w' := by
  unfold name_Segments.f at h
  split at h
  · obtain rfl := Option.some.inj h
    refine (segments_calls A0 l0.length c0 l0 w hr0 hc0 (by assumption)).mono ?_
    rintro e w' ⟨v, he, hown, hb⟩
    exact ⟨v, he, ⟨fun _ _ => trivial, _, hown, reps_nums _ _ _ _⟩, hb⟩
  · cases h

/-! ### souterrainlaw05_head: function 8 -/
def souterrainlaw05_head.f (k : Nat)  : Option (Bool) := (name_Parse.f (⟨#[104, 48, 48, 48, 48, 48, 48, 52, 50]⟩ : ByteArray)).bind fun bt105 => ((name_Parse.f (⟨#[115, 48, 48, 48, 48, 48, 48, 52, 97]⟩ : ByteArray)).bind fun bt108 => ((name_Of.f k 1 42).bind fun t111 => (if t111.toList = ([115, 48, 48, 48, 48, 48, 48, 52, 50] : List UInt8) then ((name_Of.f k 3 0).bind fun t112 => (if t112.toList = ([109] : List UInt8) then ((name_Of.f k 4 0).bind fun t113 => (if t113.toList = ([116] : List UInt8) then ((name_Of.f k 3 1).bind fun t114 => (if t114.toList = ([] : List UInt8) then ((name_Of.f k 1 100000000).bind fun t115 => (if t115.toList = ([] : List UInt8) then (if bt105.1 = 2 then (if bt105.2.1 = 42 then (if bt105.2.2 = true then (if bt108.2.2 = true then (some false) else ((name_Segments.f (([(⟨#[115, 48, 48, 48, 48, 48, 48, 48, 55]⟩ : ByteArray), (⟨#[109]⟩ : ByteArray), (⟨#[115, 48, 48, 48, 48, 48, 48, 48, 50]⟩ : ByteArray), (⟨#[115, 48, 48, 48, 48, 48, 48, 48, 55]⟩ : ByteArray), (⟨#[120]⟩ : ByteArray)] : List ByteArray))).bind fun t119 => ((souterrainref05_SameInts.f k t119 (([2, 7] : List Int))).bind fun t125 => (some t125)))) else (some false)) else (some false)) else (some false)) else (some false))) else (some false))) else (some false))) else (some false))) else (some false))))
theorem souterrainlaw05_head.mono : ∀ k, LeO (souterrainlaw05_head.f k ) (souterrainlaw05_head.f (k + 1) ) := by
  intro  k
  unfold souterrainlaw05_head.f
  repeat' first
      | (with_reducible exact name_Of.mono _ _ _)
      | (with_reducible exact souterrainref05_SameInts.mono _ _ _)
      | (with_reducible exact LeO.refl _)
      | (with_reducible exact LeO.none _)
      | (with_reducible refine LeO.ite ?_ ?_)
      | (with_reducible refine LeO.bind ?_ (fun _ => ?_))
      | exact name_Of.mono _ _ _
      | exact souterrainref05_SameInts.mono _ _ _
      | exact LeO.none _
      | refine LeO.ite ?_ ?_
      | refine LeO.bind ?_ (fun _ => ?_)
set_option maxHeartbeats 8000000 in
set_option maxRecDepth 100000 in
theorem souterrainlaw05_head.calls (k : Nat)  (r : Bool) (w : World) (h : souterrainlaw05_head.f k  = some r) :
    Calls Try.prog 8 #[] w fun e w' => e = .returned (.bool r) ∧ Below w.heap.size w w' := by
  have HB := Aside0.mk (Below.refl w.heap.size w)
  have H : ((name_Parse.f (⟨#[104, 48, 48, 48, 48, 48, 48, 52, 50]⟩ : ByteArray)).bind fun bt105 => ((name_Parse.f (⟨#[115, 48, 48, 48, 48, 48, 48, 52, 97]⟩ : ByteArray)).bind fun bt108 => ((name_Of.f k 1 42).bind fun t111 => (if t111.toList = ([115, 48, 48, 48, 48, 48, 48, 52, 50] : List UInt8) then ((name_Of.f k 3 0).bind fun t112 => (if t112.toList = ([109] : List UInt8) then ((name_Of.f k 4 0).bind fun t113 => (if t113.toList = ([116] : List UInt8) then ((name_Of.f k 3 1).bind fun t114 => (if t114.toList = ([] : List UInt8) then ((name_Of.f k 1 100000000).bind fun t115 => (if t115.toList = ([] : List UInt8) then (if bt105.1 = 2 then (if bt105.2.1 = 42 then (if bt105.2.2 = true then (if bt108.2.2 = true then (some false) else ((name_Segments.f (([(⟨#[115, 48, 48, 48, 48, 48, 48, 48, 55]⟩ : ByteArray), (⟨#[109]⟩ : ByteArray), (⟨#[115, 48, 48, 48, 48, 48, 48, 48, 50]⟩ : ByteArray), (⟨#[115, 48, 48, 48, 48, 48, 48, 48, 55]⟩ : ByteArray), (⟨#[120]⟩ : ByteArray)] : List ByteArray))).bind fun t119 => ((souterrainref05_SameInts.f k t119 (([2, 7] : List Int))).bind fun t125 => (some t125)))) else (some false)) else (some false)) else (some false)) else (some false))) else (some false))) else (some false))) else (some false))) else (some false))))) = some r := h
  clear h
  replace H := Option.bind_eq_some_iff.mp H
  obtain ⟨⟨t105, t106, t107⟩, A10, H⟩ := H
  replace H : ((name_Parse.f (⟨#[115, 48, 48, 48, 48, 48, 48, 52, 97]⟩ : ByteArray)).bind fun bt108 => ((name_Of.f k 1 42).bind fun t111 => (if t111.toList = ([115, 48, 48, 48, 48, 48, 48, 52, 50] : List UInt8) then ((name_Of.f k 3 0).bind fun t112 => (if t112.toList = ([109] : List UInt8) then ((name_Of.f k 4 0).bind fun t113 => (if t113.toList = ([116] : List UInt8) then ((name_Of.f k 3 1).bind fun t114 => (if t114.toList = ([] : List UInt8) then ((name_Of.f k 1 100000000).bind fun t115 => (if t115.toList = ([] : List UInt8) then (if t105 = 2 then (if t106 = 42 then (if t107 = true then (if bt108.2.2 = true then (some false) else ((name_Segments.f (([(⟨#[115, 48, 48, 48, 48, 48, 48, 48, 55]⟩ : ByteArray), (⟨#[109]⟩ : ByteArray), (⟨#[115, 48, 48, 48, 48, 48, 48, 48, 50]⟩ : ByteArray), (⟨#[115, 48, 48, 48, 48, 48, 48, 48, 55]⟩ : ByteArray), (⟨#[120]⟩ : ByteArray)] : List ByteArray))).bind fun t119 => ((souterrainref05_SameInts.f k t119 (([2, 7] : List Int))).bind fun t125 => (some t125)))) else (some false)) else (some false)) else (some false)) else (some false))) else (some false))) else (some false))) else (some false))) else (some false)))) = some r := H
  have A1 := Aside0.mk A10
  clear A10
  replace H := Option.bind_eq_some_iff.mp H
  obtain ⟨⟨t108, t109, t110⟩, A20, H⟩ := H
  replace H : ((name_Of.f k 1 42).bind fun t111 => (if t111.toList = ([115, 48, 48, 48, 48, 48, 48, 52, 50] : List UInt8) then ((name_Of.f k 3 0).bind fun t112 => (if t112.toList = ([109] : List UInt8) then ((name_Of.f k 4 0).bind fun t113 => (if t113.toList = ([116] : List UInt8) then ((name_Of.f k 3 1).bind fun t114 => (if t114.toList = ([] : List UInt8) then ((name_Of.f k 1 100000000).bind fun t115 => (if t115.toList = ([] : List UInt8) then (if t105 = 2 then (if t106 = 42 then (if t107 = true then (if t110 = true then (some false) else ((name_Segments.f (([(⟨#[115, 48, 48, 48, 48, 48, 48, 48, 55]⟩ : ByteArray), (⟨#[109]⟩ : ByteArray), (⟨#[115, 48, 48, 48, 48, 48, 48, 48, 50]⟩ : ByteArray), (⟨#[115, 48, 48, 48, 48, 48, 48, 48, 55]⟩ : ByteArray), (⟨#[120]⟩ : ByteArray)] : List ByteArray))).bind fun t119 => ((souterrainref05_SameInts.f k t119 (([2, 7] : List Int))).bind fun t125 => (some t125)))) else (some false)) else (some false)) else (some false)) else (some false))) else (some false))) else (some false))) else (some false))) else (some false))) = some r := H
  have A2 := Aside0.mk A20
  clear A20
  replace H := Option.bind_eq_some_iff.mp H
  obtain ⟨t111, A30, H⟩ := H
  replace H : (if t111.toList = ([115, 48, 48, 48, 48, 48, 48, 52, 50] : List UInt8) then ((name_Of.f k 3 0).bind fun t112 => (if t112.toList = ([109] : List UInt8) then ((name_Of.f k 4 0).bind fun t113 => (if t113.toList = ([116] : List UInt8) then ((name_Of.f k 3 1).bind fun t114 => (if t114.toList = ([] : List UInt8) then ((name_Of.f k 1 100000000).bind fun t115 => (if t115.toList = ([] : List UInt8) then (if t105 = 2 then (if t106 = 42 then (if t107 = true then (if t110 = true then (some false) else ((name_Segments.f (([(⟨#[115, 48, 48, 48, 48, 48, 48, 48, 55]⟩ : ByteArray), (⟨#[109]⟩ : ByteArray), (⟨#[115, 48, 48, 48, 48, 48, 48, 48, 50]⟩ : ByteArray), (⟨#[115, 48, 48, 48, 48, 48, 48, 48, 55]⟩ : ByteArray), (⟨#[120]⟩ : ByteArray)] : List ByteArray))).bind fun t119 => ((souterrainref05_SameInts.f k t119 (([2, 7] : List Int))).bind fun t125 => (some t125)))) else (some false)) else (some false)) else (some false)) else (some false))) else (some false))) else (some false))) else (some false))) else (some false)) = some r := H
  have A3 := Aside0.mk A30
  clear A30
  by_cases c4 : t111.toList = ([115, 48, 48, 48, 48, 48, 48, 52, 50] : List UInt8)
  · rw [if_pos c4] at H
    have c4b0 : (t111.toList == ([115, 48, 48, 48, 48, 48, 48, 52, 50] : List UInt8)) = true := beq_iff_eq.mpr c4
    have c4b1 : (t111.toList != ([115, 48, 48, 48, 48, 48, 48, 52, 50] : List UInt8)) = false := bne_eq_false_iff_eq.mpr c4
    clear c4
    replace H := Option.bind_eq_some_iff.mp H
    obtain ⟨t112, A50, H⟩ := H
    replace H : (if t112.toList = ([109] : List UInt8) then ((name_Of.f k 4 0).bind fun t113 => (if t113.toList = ([116] : List UInt8) then ((name_Of.f k 3 1).bind fun t114 => (if t114.toList = ([] : List UInt8) then ((name_Of.f k 1 100000000).bind fun t115 => (if t115.toList = ([] : List UInt8) then (if t105 = 2 then (if t106 = 42 then (if t107 = true then (if t110 = true then (some false) else ((name_Segments.f (([(⟨#[115, 48, 48, 48, 48, 48, 48, 48, 55]⟩ : ByteArray), (⟨#[109]⟩ : ByteArray), (⟨#[115, 48, 48, 48, 48, 48, 48, 48, 50]⟩ : ByteArray), (⟨#[115, 48, 48, 48, 48, 48, 48, 48, 55]⟩ : ByteArray), (⟨#[120]⟩ : ByteArray)] : List ByteArray))).bind fun t119 => ((souterrainref05_SameInts.f k t119 (([2, 7] : List Int))).bind fun t125 => (some t125)))) else (some false)) else (some false)) else (some false)) else (some false))) else (some false))) else (some false))) else (some false)) = some r := H
    have A5 := Aside0.mk A50
    clear A50
    by_cases c6 : t112.toList = ([109] : List UInt8)
    · rw [if_pos c6] at H
      have c6b0 : (t112.toList == ([109] : List UInt8)) = true := beq_iff_eq.mpr c6
      have c6b1 : (t112.toList != ([109] : List UInt8)) = false := bne_eq_false_iff_eq.mpr c6
      clear c6
      replace H := Option.bind_eq_some_iff.mp H
      obtain ⟨t113, A70, H⟩ := H
      replace H : (if t113.toList = ([116] : List UInt8) then ((name_Of.f k 3 1).bind fun t114 => (if t114.toList = ([] : List UInt8) then ((name_Of.f k 1 100000000).bind fun t115 => (if t115.toList = ([] : List UInt8) then (if t105 = 2 then (if t106 = 42 then (if t107 = true then (if t110 = true then (some false) else ((name_Segments.f (([(⟨#[115, 48, 48, 48, 48, 48, 48, 48, 55]⟩ : ByteArray), (⟨#[109]⟩ : ByteArray), (⟨#[115, 48, 48, 48, 48, 48, 48, 48, 50]⟩ : ByteArray), (⟨#[115, 48, 48, 48, 48, 48, 48, 48, 55]⟩ : ByteArray), (⟨#[120]⟩ : ByteArray)] : List ByteArray))).bind fun t119 => ((souterrainref05_SameInts.f k t119 (([2, 7] : List Int))).bind fun t125 => (some t125)))) else (some false)) else (some false)) else (some false)) else (some false))) else (some false))) else (some false)) = some r := H
      have A7 := Aside0.mk A70
      clear A70
      by_cases c8 : t113.toList = ([116] : List UInt8)
      · rw [if_pos c8] at H
        have c8b0 : (t113.toList == ([116] : List UInt8)) = true := beq_iff_eq.mpr c8
        have c8b1 : (t113.toList != ([116] : List UInt8)) = false := bne_eq_false_iff_eq.mpr c8
        clear c8
        replace H := Option.bind_eq_some_iff.mp H
        obtain ⟨t114, A90, H⟩ := H
        replace H : (if t114.toList = ([] : List UInt8) then ((name_Of.f k 1 100000000).bind fun t115 => (if t115.toList = ([] : List UInt8) then (if t105 = 2 then (if t106 = 42 then (if t107 = true then (if t110 = true then (some false) else ((name_Segments.f (([(⟨#[115, 48, 48, 48, 48, 48, 48, 48, 55]⟩ : ByteArray), (⟨#[109]⟩ : ByteArray), (⟨#[115, 48, 48, 48, 48, 48, 48, 48, 50]⟩ : ByteArray), (⟨#[115, 48, 48, 48, 48, 48, 48, 48, 55]⟩ : ByteArray), (⟨#[120]⟩ : ByteArray)] : List ByteArray))).bind fun t119 => ((souterrainref05_SameInts.f k t119 (([2, 7] : List Int))).bind fun t125 => (some t125)))) else (some false)) else (some false)) else (some false)) else (some false))) else (some false)) = some r := H
        have A9 := Aside0.mk A90
        clear A90
        by_cases c10 : t114.toList = ([] : List UInt8)
        · rw [if_pos c10] at H
          have c10b0 : (t114.toList == ([] : List UInt8)) = true := beq_iff_eq.mpr c10
          have c10b1 : (t114.toList != ([] : List UInt8)) = false := bne_eq_false_iff_eq.mpr c10
          clear c10
          replace H := Option.bind_eq_some_iff.mp H
          obtain ⟨t115, A110, H⟩ := H
          replace H : (if t115.toList = ([] : List UInt8) then (if t105 = 2 then (if t106 = 42 then (if t107 = true then (if t110 = true then (some false) else ((name_Segments.f (([(⟨#[115, 48, 48, 48, 48, 48, 48, 48, 55]⟩ : ByteArray), (⟨#[109]⟩ : ByteArray), (⟨#[115, 48, 48, 48, 48, 48, 48, 48, 50]⟩ : ByteArray), (⟨#[115, 48, 48, 48, 48, 48, 48, 48, 55]⟩ : ByteArray), (⟨#[120]⟩ : ByteArray)] : List ByteArray))).bind fun t119 => ((souterrainref05_SameInts.f k t119 (([2, 7] : List Int))).bind fun t125 => (some t125)))) else (some false)) else (some false)) else (some false)) else (some false)) = some r := H
          have A11 := Aside0.mk A110
          clear A110
          by_cases c12 : t115.toList = ([] : List UInt8)
          · rw [if_pos c12] at H
            have c12b0 : (t115.toList == ([] : List UInt8)) = true := beq_iff_eq.mpr c12
            have c12b1 : (t115.toList != ([] : List UInt8)) = false := bne_eq_false_iff_eq.mpr c12
            clear c12
            by_cases c13 : t105 = 2
            · rw [if_pos c13] at H
              have c13b0 : (t105 == 2) = true := beq_iff_eq.mpr c13
              have c13b1 : (t105 != 2) = false := bne_eq_false_iff_eq.mpr c13
              clear c13
              by_cases c14 : t106 = 42
              · rw [if_pos c14] at H
                have c14b0 : (t106 == 42) = true := beq_iff_eq.mpr c14
                have c14b1 : (t106 != 42) = false := bne_eq_false_iff_eq.mpr c14
                clear c14
                by_cases c15 : t107 = true
                · subst c15
                  have H1 : (if t110 = true then (some false) else ((name_Segments.f (([(⟨#[115, 48, 48, 48, 48, 48, 48, 48, 55]⟩ : ByteArray), (⟨#[109]⟩ : ByteArray), (⟨#[115, 48, 48, 48, 48, 48, 48, 48, 50]⟩ : ByteArray), (⟨#[115, 48, 48, 48, 48, 48, 48, 48, 55]⟩ : ByteArray), (⟨#[120]⟩ : ByteArray)] : List ByteArray))).bind fun t119 => ((souterrainref05_SameInts.f k t119 (([2, 7] : List Int))).bind fun t125 => (some t125)))) = some r := by rw [if_pos rfl] at H; exact H
                  clear H
                  have H := H1
                  clear H1
                  by_cases c16 : t110 = true
                  · subst c16
                    have H1 : (some false) = some r := by rw [if_pos rfl] at H; exact H
                    clear H
                    have H := H1
                    clear H1
                    obtain rfl := Option.some.inj H
                    go_enter Try.func8, Try.ntmps8
                    go_wp2_with (first | ((with_reducible refine gate_callee (f := 9) rfl ?_); refine goesL_ (some 8) rfl rfl Try.func9 (by kernel_rfl) rfl #[.string (⟨#[104, 48, 48, 48, 48, 48, 48, 52, 50]⟩ : ByteArray)] rfl (by (try simp only [List.map_toArray, List.map_cons, List.map_nil]); first | done | rfl | (simp only [List.length_drop, List.length_take]; rfl)) ?_; (with_reducible refine (name_Parse.calls (⟨#[104, 48, 48, 48, 48, 48, 48, 52, 50]⟩ : ByteArray) t105 t106 true _ A1.out).mono ?_); rintro e w17 ⟨rfl, hb⟩; refine ⟨_, rfl, ?_⟩; have n0_ := Aside0.mk (below_step (by repeat (first | (with_reducible first | exact HB.out | apply below_alloc | apply pw_below_drewN | apply below_drew1) | exact HB.out)) hb); clear HB; have HB := n0_; clear n0_; (try clear hb); (try clear hb2); (try clear hk); (try clear hi)) | ((with_reducible refine gate_callee (f := 9) rfl ?_); refine goesL_ (some 13) rfl rfl Try.func9 (by kernel_rfl) rfl #[.string (⟨#[115, 48, 48, 48, 48, 48, 48, 52, 97]⟩ : ByteArray)] rfl (by (try simp only [List.map_toArray, List.map_cons, List.map_nil]); first | done | rfl | (simp only [List.length_drop, List.length_take]; rfl)) ?_; (with_reducible refine (name_Parse.calls (⟨#[115, 48, 48, 48, 48, 48, 48, 52, 97]⟩ : ByteArray) t108 t109 true _ A2.out).mono ?_); rintro e w18 ⟨rfl, hb⟩; refine ⟨_, rfl, ?_⟩; have n0_ := Aside0.mk (below_step (by repeat (first | (with_reducible first | exact HB.out | apply below_alloc | apply pw_below_drewN | apply below_drew1) | exact HB.out)) hb); clear HB; have HB := n0_; clear n0_; (try clear hb); (try clear hb2); (try clear hk); (try clear hi)) | ((with_reducible refine gate_callee (f := 11) rfl ?_); refine goesL_ (some 17) rfl rfl Try.func11 (by kernel_rfl) rfl #[.int .i64 1, .int .i64 42] rfl (by (try simp only [List.map_toArray, List.map_cons, List.map_nil]); first | done | rfl | (simp only [List.length_drop, List.length_take]; rfl)) ?_; (with_reducible refine (name_Of.calls k 1 42 t111 _ A3.out).mono ?_); rintro e w19 ⟨rfl, hb⟩; refine ⟨_, rfl, ?_⟩; have n0_ := Aside0.mk (below_step (by repeat (first | (with_reducible first | exact HB.out | apply below_alloc | apply pw_below_drewN | apply below_drew1) | exact HB.out)) hb); clear HB; have HB := n0_; clear n0_; (try clear hb); (try clear hb2); (try clear hk); (try clear hi)) | (go_at_call 11; (with_reducible refine (name_Of.calls k 3 0 t112 _ A5.out).mono ?_); rintro e w20 ⟨rfl, hb⟩; have n0_ := Aside0.mk (below_step (by repeat (first | (with_reducible first | exact HB.out | apply below_alloc | apply pw_below_drewN | apply below_drew1) | exact HB.out)) hb); clear HB; have HB := n0_; clear n0_; (try clear hb); (try clear hb2); (try clear hk); (try clear hi)) | (go_at_call 11; (with_reducible refine (name_Of.calls k 4 0 t113 _ A7.out).mono ?_); rintro e w21 ⟨rfl, hb⟩; have n0_ := Aside0.mk (below_step (by repeat (first | (with_reducible first | exact HB.out | apply below_alloc | apply pw_below_drewN | apply below_drew1) | exact HB.out)) hb); clear HB; have HB := n0_; clear n0_; (try clear hb); (try clear hb2); (try clear hk); (try clear hi)) | (go_at_call 11; (with_reducible refine (name_Of.calls k 3 1 t114 _ A9.out).mono ?_); rintro e w22 ⟨rfl, hb⟩; have n0_ := Aside0.mk (below_step (by repeat (first | (with_reducible first | exact HB.out | apply below_alloc | apply pw_below_drewN | apply below_drew1) | exact HB.out)) hb); clear HB; have HB := n0_; clear n0_; (try clear hb); (try clear hb2); (try clear hk); (try clear hi)) | (go_at_call 11; (with_reducible refine (name_Of.calls k 1 100000000 t115 _ A11.out).mono ?_); rintro e w23 ⟨rfl, hb⟩; have n0_ := Aside0.mk (below_step (by repeat (first | (with_reducible first | exact HB.out | apply below_alloc | apply pw_below_drewN | apply below_drew1) | exact HB.out)) hb); clear HB; have HB := n0_; clear n0_; (try clear hb); (try clear hb2); (try clear hk); (try clear hi)))
                    go_ret
                    exact ⟨by first | rfl | (simp [errW_none, errW_some] <;> rfl) | (simp [*, errW_none, errW_some] <;> rfl), by repeat (first | (with_reducible first | exact HB.out | apply below_alloc | apply pw_below_drewN | apply below_drew1) | exact HB.out)⟩
                  · replace c16 := Bool.eq_false_iff.mpr c16
                    subst c16
                    have H1 : ((name_Segments.f (([(⟨#[115, 48, 48, 48, 48, 48, 48, 48, 55]⟩ : ByteArray), (⟨#[109]⟩ : ByteArray), (⟨#[115, 48, 48, 48, 48, 48, 48, 48, 50]⟩ : ByteArray), (⟨#[115, 48, 48, 48, 48, 48, 48, 48, 55]⟩ : ByteArray), (⟨#[120]⟩ : ByteArray)] : List ByteArray))).bind fun t119 => ((souterrainref05_SameInts.f k t119 (([2, 7] : List Int))).bind fun t125 => (some t125))) = some r := by rw [if_neg (show ¬ (false = true) by decide)] at H; exact H
                    clear H
                    have H := H1
                    clear H1
                    obtain ⟨y116, hy116⟩ : ∃ y_ : List ByteArray, y_ = (([(⟨#[115, 48, 48, 48, 48, 48, 48, 48, 55]⟩ : ByteArray), (⟨#[109]⟩ : ByteArray), (⟨#[115, 48, 48, 48, 48, 48, 48, 48, 50]⟩ : ByteArray), (⟨#[115, 48, 48, 48, 48, 48, 48, 48, 55]⟩ : ByteArray), (⟨#[120]⟩ : ByteArray)] : List ByteArray)) := ⟨_, rfl⟩
                    replace H : ((name_Segments.f y116).bind fun t119 => ((souterrainref05_SameInts.f k t119 (([2, 7] : List Int))).bind fun t125 => (some t125))) = some r := by first | (rw [hy116]; with_reducible exact H) | (have H2_ := (Option.bind_some _ _).symm.trans H; rw [hy116]; with_reducible exact H2_) | (have H2_ := (Option.bind_some _ _).symm.trans H; with_reducible exact H2_) | with_reducible exact H | (rw [hy116]; exact H) | exact H
                    have Ny116 := Aside0.mk hy116
                    clear hy116
                    replace H := Option.bind_eq_some_iff.mp H
                    obtain ⟨t119, A240, H⟩ := H
                    replace H : ((souterrainref05_SameInts.f k t119 (([2, 7] : List Int))).bind fun t125 => (some t125)) = some r := H
                    have A24 := Aside0.mk A240
                    clear A240
                    obtain ⟨y122, hy122⟩ : ∃ y_ : List Int, y_ = (([2, 7] : List Int)) := ⟨_, rfl⟩
                    replace H : ((souterrainref05_SameInts.f k t119 y122).bind fun t125 => (some t125)) = some r := by first | (rw [hy122]; with_reducible exact H) | (have H2_ := (Option.bind_some _ _).symm.trans H; rw [hy122]; with_reducible exact H2_) | (have H2_ := (Option.bind_some _ _).symm.trans H; with_reducible exact H2_) | with_reducible exact H | (rw [hy122]; exact H) | exact H
                    have Ny122 := Aside0.mk hy122
                    clear hy122
                    replace H := Option.bind_eq_some_iff.mp H
                    obtain ⟨t125, A250, H⟩ := H
                    replace H : (some t125) = some r := H
                    have A25 := Aside0.mk A250
                    clear A250
                    obtain rfl := Option.some.inj H
                    go_enter Try.func8, Try.ntmps8
                    go_wp2_with (first | ((with_reducible refine gate_callee (f := 9) rfl ?_); refine goesL_ (some 8) rfl rfl Try.func9 (by kernel_rfl) rfl #[.string (⟨#[104, 48, 48, 48, 48, 48, 48, 52, 50]⟩ : ByteArray)] rfl (by (try simp only [List.map_toArray, List.map_cons, List.map_nil]); first | done | rfl | (simp only [List.length_drop, List.length_take]; rfl)) ?_; (with_reducible refine (name_Parse.calls (⟨#[104, 48, 48, 48, 48, 48, 48, 52, 50]⟩ : ByteArray) t105 t106 true _ A1.out).mono ?_); rintro e w26 ⟨rfl, hb⟩; refine ⟨_, rfl, ?_⟩; have n0_ := Aside0.mk (below_step (by repeat (first | (with_reducible first | exact HB.out | apply below_alloc | apply pw_below_drewN | apply below_drew1) | exact HB.out)) hb); clear HB; have HB := n0_; clear n0_; (try clear hb); (try clear hb2); (try clear hk); (try clear hi)) | ((with_reducible refine gate_callee (f := 9) rfl ?_); refine goesL_ (some 13) rfl rfl Try.func9 (by kernel_rfl) rfl #[.string (⟨#[115, 48, 48, 48, 48, 48, 48, 52, 97]⟩ : ByteArray)] rfl (by (try simp only [List.map_toArray, List.map_cons, List.map_nil]); first | done | rfl | (simp only [List.length_drop, List.length_take]; rfl)) ?_; (with_reducible refine (name_Parse.calls (⟨#[115, 48, 48, 48, 48, 48, 48, 52, 97]⟩ : ByteArray) t108 t109 false _ A2.out).mono ?_); rintro e w27 ⟨rfl, hb⟩; refine ⟨_, rfl, ?_⟩; have n0_ := Aside0.mk (below_step (by repeat (first | (with_reducible first | exact HB.out | apply below_alloc | apply pw_below_drewN | apply below_drew1) | exact HB.out)) hb); clear HB; have HB := n0_; clear n0_; (try clear hb); (try clear hb2); (try clear hk); (try clear hi)) | ((with_reducible refine gate_callee (f := 11) rfl ?_); refine goesL_ (some 17) rfl rfl Try.func11 (by kernel_rfl) rfl #[.int .i64 1, .int .i64 42] rfl (by (try simp only [List.map_toArray, List.map_cons, List.map_nil]); first | done | rfl | (simp only [List.length_drop, List.length_take]; rfl)) ?_; (with_reducible refine (name_Of.calls k 1 42 t111 _ A3.out).mono ?_); rintro e w28 ⟨rfl, hb⟩; refine ⟨_, rfl, ?_⟩; have n0_ := Aside0.mk (below_step (by repeat (first | (with_reducible first | exact HB.out | apply below_alloc | apply pw_below_drewN | apply below_drew1) | exact HB.out)) hb); clear HB; have HB := n0_; clear n0_; (try clear hb); (try clear hb2); (try clear hk); (try clear hi)) | (go_at_call 11; (with_reducible refine (name_Of.calls k 3 0 t112 _ A5.out).mono ?_); rintro e w29 ⟨rfl, hb⟩; have n0_ := Aside0.mk (below_step (by repeat (first | (with_reducible first | exact HB.out | apply below_alloc | apply pw_below_drewN | apply below_drew1) | exact HB.out)) hb); clear HB; have HB := n0_; clear n0_; (try clear hb); (try clear hb2); (try clear hk); (try clear hi)) | (go_at_call 11; (with_reducible refine (name_Of.calls k 4 0 t113 _ A7.out).mono ?_); rintro e w30 ⟨rfl, hb⟩; have n0_ := Aside0.mk (below_step (by repeat (first | (with_reducible first | exact HB.out | apply below_alloc | apply pw_below_drewN | apply below_drew1) | exact HB.out)) hb); clear HB; have HB := n0_; clear n0_; (try clear hb); (try clear hb2); (try clear hk); (try clear hi)) | (go_at_call 11; (with_reducible refine (name_Of.calls k 3 1 t114 _ A9.out).mono ?_); rintro e w31 ⟨rfl, hb⟩; have n0_ := Aside0.mk (below_step (by repeat (first | (with_reducible first | exact HB.out | apply below_alloc | apply pw_below_drewN | apply below_drew1) | exact HB.out)) hb); clear HB; have HB := n0_; clear n0_; (try clear hb); (try clear hb2); (try clear hk); (try clear hi)) | (go_at_call 11; (with_reducible refine (name_Of.calls k 1 100000000 t115 _ A11.out).mono ?_); rintro e w32 ⟨rfl, hb⟩; have n0_ := Aside0.mk (below_step (by repeat (first | (with_reducible first | exact HB.out | apply below_alloc | apply pw_below_drewN | apply below_drew1) | exact HB.out)) hb); clear HB; have HB := n0_; clear n0_; (try clear hb); (try clear hb2); (try clear hk); (try clear hi)) | ((with_reducible refine gate_dst (N := 51) rfl ?_); (try (refine gate_guard (by rfl) ?_; dsimp only)); refine Kd.R_lit Kd.string _ 9 ?hg (N := 51) ?hd (xs := ([(⟨#[115, 48, 48, 48, 48, 48, 48, 48, 55]⟩ : ByteArray), (⟨#[109]⟩ : ByteArray), (⟨#[115, 48, 48, 48, 48, 48, 48, 48, 50]⟩ : ByteArray), (⟨#[115, 48, 48, 48, 48, 48, 48, 48, 55]⟩ : ByteArray), (⟨#[120]⟩ : ByteArray)] : List ByteArray)) (inner := [.string (⟨#[115, 48, 48, 48, 48, 48, 48, 48, 55]⟩ : ByteArray), .string (⟨#[109]⟩ : ByteArray), .string (⟨#[115, 48, 48, 48, 48, 48, 48, 48, 50]⟩ : ByteArray), .string (⟨#[115, 48, 48, 48, 48, 48, 48, 48, 55]⟩ : ByteArray), .string (⟨#[120]⟩ : ByteArray)]) (ok := fun _ => True) (okp := fun _ => True) ?hr ?hp (fun _ hk => hk) trivial (Below.refl _ _) (Nat.le_refl _) (by simp) ?_; (case hd => rfl); (case hg => rfl); (case hr => first | (go_simp; done) | (go_simp; rfl)); (case hp => exact (Reps.one (show Kd.M Kd.string _ _ _ (⟨#[115, 48, 48, 48, 48, 48, 48, 48, 55]⟩ : ByteArray) [.string (⟨#[115, 48, 48, 48, 48, 48, 48, 48, 55]⟩ : ByteArray)] from rfl) (Reps.one (show Kd.M Kd.string _ _ _ (⟨#[109]⟩ : ByteArray) [.string (⟨#[109]⟩ : ByteArray)] from rfl) (Reps.one (show Kd.M Kd.string _ _ _ (⟨#[115, 48, 48, 48, 48, 48, 48, 48, 50]⟩ : ByteArray) [.string (⟨#[115, 48, 48, 48, 48, 48, 48, 48, 50]⟩ : ByteArray)] from rfl) (Reps.one (show Kd.M Kd.string _ _ _ (⟨#[115, 48, 48, 48, 48, 48, 48, 48, 55]⟩ : ByteArray) [.string (⟨#[115, 48, 48, 48, 48, 48, 48, 48, 55]⟩ : ByteArray)] from rfl) (Reps.one (show Kd.M Kd.string _ _ _ (⟨#[120]⟩ : ByteArray) [.string (⟨#[120]⟩ : ByteArray)] from rfl) (Reps.none _ _))))))); intro v117 w33 ho34 hb hg_ hnew_; clear hg_ hnew_; (first | rw [← Ny116.out] at ho34 | (simp only [Int.reduceToNat] at ho34; rw [← Ny116.out] at ho34)); have n0_ := Aside0.mk (Kd.R_lower ho34 (below_size (by repeat (first | (with_reducible first | exact HB.out | apply below_alloc | apply pw_below_drewN | apply below_drew1) | exact HB.out)))); have n1_ := Aside0.mk (below_step (by repeat (first | (with_reducible first | exact HB.out | apply below_alloc | apply pw_below_drewN | apply below_drew1) | exact HB.out)) hb); clear HB; have HO118 := n0_; have HB := n1_; clear n0_ n1_; clear hb ho34; obtain ⟨Ao35, co35, eo35⟩ := Kd.R_slice HO118.out; subst eo35) | (go_at_call 14; (with_reducible refine (name_Segments.calls _ _ y116 t119 _ ?side1 ?side2 A24.out).mono ?_); (case side1 => repeat (first | exact (Kd.R_reads' HO118.out).2.2 | (with_reducible refine Kd.C_alloc ?_ _) | (with_reducible refine Kd.C_drewN ?_ _) | (with_reducible refine Kd.C_drew ?_))); (case side2 => exact (Kd.R_reads' HO118.out).2.1); rintro e w36 ⟨v120, rfl, ho0, hb⟩; have n0_ := Aside0.mk (Kd.R_below (by (with_reducible repeat (first | apply Kd.R_alloc | apply Kd.R_drewN | apply Kd.R_drew)); exact HO118.out) hb); have n1_ := Aside0.mk (Kd.R_lower ho0 (below_size (by repeat (first | (with_reducible first | exact HB.out | apply below_alloc | apply pw_below_drewN | apply below_drew1) | exact HB.out)))); have n2_ := Aside0.mk (below_step (by repeat (first | (with_reducible first | exact HB.out | apply below_alloc | apply pw_below_drewN | apply below_drew1) | exact HB.out)) hb); clear HO118; clear HB; have HO118 := n0_; have HO121 := n1_; have HB := n2_; clear n0_ n1_ n2_; (try clear hb); (try clear hb2); (try clear hk); (try clear hi); (try clear ho0)) | ((with_reducible refine gate_dst (N := 53) rfl ?_); (try (refine gate_guard (by rfl) ?_; dsimp only)); refine Kd.R_lit (Kd.int .i64) _ 3 ?hg (N := 53) ?hd (xs := ([2, 7] : List Int)) (inner := [.int .i64 2, .int .i64 7]) (ok := fun _ => True) (okp := fun _ => True) ?hr ?hp (fun _ hk => hk) trivial (Below.refl _ _) (Nat.le_refl _) (by simp) ?_; (case hd => rfl); (case hg => rfl); (case hr => first | (go_simp; done) | (go_simp; rfl)); (case hp => exact (Reps.one (show Kd.M (Kd.int .i64) _ _ _ 2 [.int .i64 2] from rfl) (Reps.one (show Kd.M (Kd.int .i64) _ _ _ 7 [.int .i64 7] from rfl) (Reps.none _ _)))); intro v123 w37 ho38 hb hg_ hnew_; clear hg_ hnew_; (first | rw [← Ny122.out] at ho38 | (simp only [Int.reduceToNat] at ho38; rw [← Ny122.out] at ho38)); have n0_ := Aside0.mk (Kd.R_below (by (with_reducible repeat (first | apply Kd.R_alloc | apply Kd.R_drewN | apply Kd.R_drew)); exact HO118.out) hb); have n1_ := Aside0.mk (Kd.R_elder' (by (with_reducible repeat (first | apply Kd.R_alloc | apply Kd.R_drewN | apply Kd.R_drew)); exact HO121.out) (Kd.R_base ho38) hb); have n2_ := Aside0.mk (Kd.R_lower (Kd.R_new' ho38 (Kd.R_lt (by (with_reducible repeat (first | apply Kd.R_alloc | apply Kd.R_drewN | apply Kd.R_drew)); exact HO121.out))) (below_size (by repeat (first | (with_reducible first | exact HB.out | apply below_alloc | apply pw_below_drewN | apply below_drew1) | exact HB.out)))); have n3_ := Aside0.mk (below_step (by repeat (first | (with_reducible first | exact HB.out | apply below_alloc | apply pw_below_drewN | apply below_drew1) | exact HB.out)) hb); clear HO118; clear HO121; clear HB; have HO118 := n0_; have HO121 := n1_; have HO124 := n2_; have HB := n3_; clear n0_ n1_ n2_ n3_; clear hb ho38; obtain ⟨Ao39, co39, eo39⟩ := Kd.R_slice HO121.out; subst eo39; obtain ⟨Ao40, co40, eo40⟩ := Kd.R_slice HO124.out; subst eo40) | (go_at_call 13; (with_reducible refine (souterrainref05_SameInts.calls k _ _ t119 _ _ y122 t125 _ ?side1 ?side2 ?side3 ?side4 A25.out).mono ?_); (case side1 => repeat (first | exact (Kd.R_reads' HO121.out).2.2 | (with_reducible refine Kd.C_alloc ?_ _) | (with_reducible refine Kd.C_drewN ?_ _) | (with_reducible refine Kd.C_drew ?_))); (case side2 => exact (Kd.R_reads' HO121.out).2.1); (case side3 => repeat (first | exact (Kd.R_reads' HO124.out).2.2 | (with_reducible refine Kd.C_alloc ?_ _) | (with_reducible refine Kd.C_drewN ?_ _) | (with_reducible refine Kd.C_drew ?_))); (case side4 => exact (Kd.R_reads' HO124.out).2.1); rintro e w' ⟨rfl, ⟨nd, rfl⟩⟩))
                    go_ret
                    exact ⟨by first | rfl | (simp [errW_none, errW_some] <;> rfl) | (simp [*, errW_none, errW_some] <;> rfl), by repeat (first | (with_reducible first | exact HB.out | apply below_alloc | apply pw_below_drewN | apply below_drew1) | exact HB.out)⟩
                · replace c15 := Bool.eq_false_iff.mpr c15
                  subst c15
                  have H1 : (some false) = some r := by rw [if_neg (show ¬ (false = true) by decide)] at H; exact H
                  clear H
                  have H := H1
                  clear H1
                  obtain rfl := Option.some.inj H
                  go_enter Try.func8, Try.ntmps8
                  go_wp2_with (first | ((with_reducible refine gate_callee (f := 9) rfl ?_); refine goesL_ (some 8) rfl rfl Try.func9 (by kernel_rfl) rfl #[.string (⟨#[104, 48, 48, 48, 48, 48, 48, 52, 50]⟩ : ByteArray)] rfl (by (try simp only [List.map_toArray, List.map_cons, List.map_nil]); first | done | rfl | (simp only [List.length_drop, List.length_take]; rfl)) ?_; (with_reducible refine (name_Parse.calls (⟨#[104, 48, 48, 48, 48, 48, 48, 52, 50]⟩ : ByteArray) t105 t106 false _ A1.out).mono ?_); rintro e w41 ⟨rfl, hb⟩; refine ⟨_, rfl, ?_⟩; have n0_ := Aside0.mk (below_step (by repeat (first | (with_reducible first | exact HB.out | apply below_alloc | apply pw_below_drewN | apply below_drew1) | exact HB.out)) hb); clear HB; have HB := n0_; clear n0_; (try clear hb); (try clear hb2); (try clear hk); (try clear hi)) | ((with_reducible refine gate_callee (f := 9) rfl ?_); refine goesL_ (some 13) rfl rfl Try.func9 (by kernel_rfl) rfl #[.string (⟨#[115, 48, 48, 48, 48, 48, 48, 52, 97]⟩ : ByteArray)] rfl (by (try simp only [List.map_toArray, List.map_cons, List.map_nil]); first | done | rfl | (simp only [List.length_drop, List.length_take]; rfl)) ?_; (with_reducible refine (name_Parse.calls (⟨#[115, 48, 48, 48, 48, 48, 48, 52, 97]⟩ : ByteArray) t108 t109 t110 _ A2.out).mono ?_); rintro e w42 ⟨rfl, hb⟩; refine ⟨_, rfl, ?_⟩; have n0_ := Aside0.mk (below_step (by repeat (first | (with_reducible first | exact HB.out | apply below_alloc | apply pw_below_drewN | apply below_drew1) | exact HB.out)) hb); clear HB; have HB := n0_; clear n0_; (try clear hb); (try clear hb2); (try clear hk); (try clear hi)) | ((with_reducible refine gate_callee (f := 11) rfl ?_); refine goesL_ (some 17) rfl rfl Try.func11 (by kernel_rfl) rfl #[.int .i64 1, .int .i64 42] rfl (by (try simp only [List.map_toArray, List.map_cons, List.map_nil]); first | done | rfl | (simp only [List.length_drop, List.length_take]; rfl)) ?_; (with_reducible refine (name_Of.calls k 1 42 t111 _ A3.out).mono ?_); rintro e w43 ⟨rfl, hb⟩; refine ⟨_, rfl, ?_⟩; have n0_ := Aside0.mk (below_step (by repeat (first | (with_reducible first | exact HB.out | apply below_alloc | apply pw_below_drewN | apply below_drew1) | exact HB.out)) hb); clear HB; have HB := n0_; clear n0_; (try clear hb); (try clear hb2); (try clear hk); (try clear hi)) | (go_at_call 11; (with_reducible refine (name_Of.calls k 3 0 t112 _ A5.out).mono ?_); rintro e w44 ⟨rfl, hb⟩; have n0_ := Aside0.mk (below_step (by repeat (first | (with_reducible first | exact HB.out | apply below_alloc | apply pw_below_drewN | apply below_drew1) | exact HB.out)) hb); clear HB; have HB := n0_; clear n0_; (try clear hb); (try clear hb2); (try clear hk); (try clear hi)) | (go_at_call 11; (with_reducible refine (name_Of.calls k 4 0 t113 _ A7.out).mono ?_); rintro e w45 ⟨rfl, hb⟩; have n0_ := Aside0.mk (below_step (by repeat (first | (with_reducible first | exact HB.out | apply below_alloc | apply pw_below_drewN | apply below_drew1) | exact HB.out)) hb); clear HB; have HB := n0_; clear n0_; (try clear hb); (try clear hb2); (try clear hk); (try clear hi)) | (go_at_call 11; (with_reducible refine (name_Of.calls k 3 1 t114 _ A9.out).mono ?_); rintro e w46 ⟨rfl, hb⟩; have n0_ := Aside0.mk (below_step (by repeat (first | (with_reducible first | exact HB.out | apply below_alloc | apply pw_below_drewN | apply below_drew1) | exact HB.out)) hb); clear HB; have HB := n0_; clear n0_; (try clear hb); (try clear hb2); (try clear hk); (try clear hi)) | (go_at_call 11; (with_reducible refine (name_Of.calls k 1 100000000 t115 _ A11.out).mono ?_); rintro e w47 ⟨rfl, hb⟩; have n0_ := Aside0.mk (below_step (by repeat (first | (with_reducible first | exact HB.out | apply below_alloc | apply pw_below_drewN | apply below_drew1) | exact HB.out)) hb); clear HB; have HB := n0_; clear n0_; (try clear hb); (try clear hb2); (try clear hk); (try clear hi)))
                  go_ret
                  exact ⟨by first | rfl | (simp [errW_none, errW_some] <;> rfl) | (simp [*, errW_none, errW_some] <;> rfl), by repeat (first | (with_reducible first | exact HB.out | apply below_alloc | apply pw_below_drewN | apply below_drew1) | exact HB.out)⟩
              · rw [if_neg c14] at H
                have c14b0 : (t106 == 42) = false := beq_eq_false_iff_ne.mpr c14
                have c14b1 : (t106 != 42) = true := bne_iff_ne.mpr c14
                obtain rfl := Option.some.inj H
                go_enter Try.func8, Try.ntmps8
                go_wp2_with (first | ((with_reducible refine gate_callee (f := 9) rfl ?_); refine goesL_ (some 8) rfl rfl Try.func9 (by kernel_rfl) rfl #[.string (⟨#[104, 48, 48, 48, 48, 48, 48, 52, 50]⟩ : ByteArray)] rfl (by (try simp only [List.map_toArray, List.map_cons, List.map_nil]); first | done | rfl | (simp only [List.length_drop, List.length_take]; rfl)) ?_; (with_reducible refine (name_Parse.calls (⟨#[104, 48, 48, 48, 48, 48, 48, 52, 50]⟩ : ByteArray) t105 t106 t107 _ A1.out).mono ?_); rintro e w48 ⟨rfl, hb⟩; refine ⟨_, rfl, ?_⟩; have n0_ := Aside0.mk (below_step (by repeat (first | (with_reducible first | exact HB.out | apply below_alloc | apply pw_below_drewN | apply below_drew1) | exact HB.out)) hb); clear HB; have HB := n0_; clear n0_; (try clear hb); (try clear hb2); (try clear hk); (try clear hi)) | ((with_reducible refine gate_callee (f := 9) rfl ?_); refine goesL_ (some 13) rfl rfl Try.func9 (by kernel_rfl) rfl #[.string (⟨#[115, 48, 48, 48, 48, 48, 48, 52, 97]⟩ : ByteArray)] rfl (by (try simp only [List.map_toArray, List.map_cons, List.map_nil]); first | done | rfl | (simp only [List.length_drop, List.length_take]; rfl)) ?_; (with_reducible refine (name_Parse.calls (⟨#[115, 48, 48, 48, 48, 48, 48, 52, 97]⟩ : ByteArray) t108 t109 t110 _ A2.out).mono ?_); rintro e w49 ⟨rfl, hb⟩; refine ⟨_, rfl, ?_⟩; have n0_ := Aside0.mk (below_step (by repeat (first | (with_reducible first | exact HB.out | apply below_alloc | apply pw_below_drewN | apply below_drew1) | exact HB.out)) hb); clear HB; have HB := n0_; clear n0_; (try clear hb); (try clear hb2); (try clear hk); (try clear hi)) | ((with_reducible refine gate_callee (f := 11) rfl ?_); refine goesL_ (some 17) rfl rfl Try.func11 (by kernel_rfl) rfl #[.int .i64 1, .int .i64 42] rfl (by (try simp only [List.map_toArray, List.map_cons, List.map_nil]); first | done | rfl | (simp only [List.length_drop, List.length_take]; rfl)) ?_; (with_reducible refine (name_Of.calls k 1 42 t111 _ A3.out).mono ?_); rintro e w50 ⟨rfl, hb⟩; refine ⟨_, rfl, ?_⟩; have n0_ := Aside0.mk (below_step (by repeat (first | (with_reducible first | exact HB.out | apply below_alloc | apply pw_below_drewN | apply below_drew1) | exact HB.out)) hb); clear HB; have HB := n0_; clear n0_; (try clear hb); (try clear hb2); (try clear hk); (try clear hi)) | (go_at_call 11; (with_reducible refine (name_Of.calls k 3 0 t112 _ A5.out).mono ?_); rintro e w51 ⟨rfl, hb⟩; have n0_ := Aside0.mk (below_step (by repeat (first | (with_reducible first | exact HB.out | apply below_alloc | apply pw_below_drewN | apply below_drew1) | exact HB.out)) hb); clear HB; have HB := n0_; clear n0_; (try clear hb); (try clear hb2); (try clear hk); (try clear hi)) | (go_at_call 11; (with_reducible refine (name_Of.calls k 4 0 t113 _ A7.out).mono ?_); rintro e w52 ⟨rfl, hb⟩; have n0_ := Aside0.mk (below_step (by repeat (first | (with_reducible first | exact HB.out | apply below_alloc | apply pw_below_drewN | apply below_drew1) | exact HB.out)) hb); clear HB; have HB := n0_; clear n0_; (try clear hb); (try clear hb2); (try clear hk); (try clear hi)) | (go_at_call 11; (with_reducible refine (name_Of.calls k 3 1 t114 _ A9.out).mono ?_); rintro e w53 ⟨rfl, hb⟩; have n0_ := Aside0.mk (below_step (by repeat (first | (with_reducible first | exact HB.out | apply below_alloc | apply pw_below_drewN | apply below_drew1) | exact HB.out)) hb); clear HB; have HB := n0_; clear n0_; (try clear hb); (try clear hb2); (try clear hk); (try clear hi)) | (go_at_call 11; (with_reducible refine (name_Of.calls k 1 100000000 t115 _ A11.out).mono ?_); rintro e w54 ⟨rfl, hb⟩; have n0_ := Aside0.mk (below_step (by repeat (first | (with_reducible first | exact HB.out | apply below_alloc | apply pw_below_drewN | apply below_drew1) | exact HB.out)) hb); clear HB; have HB := n0_; clear n0_; (try clear hb); (try clear hb2); (try clear hk); (try clear hi)))
                go_ret
                exact ⟨by first | rfl | (simp [errW_none, errW_some] <;> rfl) | (simp [*, errW_none, errW_some] <;> rfl), by repeat (first | (with_reducible first | exact HB.out | apply below_alloc | apply pw_below_drewN | apply below_drew1) | exact HB.out)⟩
            · rw [if_neg c13] at H
              have c13b0 : (t105 == 2) = false := beq_eq_false_iff_ne.mpr c13
              have c13b1 : (t105 != 2) = true := bne_iff_ne.mpr c13
              obtain rfl := Option.some.inj H
              go_enter Try.func8, Try.ntmps8
              go_wp2_with (first | ((with_reducible refine gate_callee (f := 9) rfl ?_); refine goesL_ (some 8) rfl rfl Try.func9 (by kernel_rfl) rfl #[.string (⟨#[104, 48, 48, 48, 48, 48, 48, 52, 50]⟩ : ByteArray)] rfl (by (try simp only [List.map_toArray, List.map_cons, List.map_nil]); first | done | rfl | (simp only [List.length_drop, List.length_take]; rfl)) ?_; (with_reducible refine (name_Parse.calls (⟨#[104, 48, 48, 48, 48, 48, 48, 52, 50]⟩ : ByteArray) t105 t106 t107 _ A1.out).mono ?_); rintro e w55 ⟨rfl, hb⟩; refine ⟨_, rfl, ?_⟩; have n0_ := Aside0.mk (below_step (by repeat (first | (with_reducible first | exact HB.out | apply below_alloc | apply pw_below_drewN | apply below_drew1) | exact HB.out)) hb); clear HB; have HB := n0_; clear n0_; (try clear hb); (try clear hb2); (try clear hk); (try clear hi)) | ((with_reducible refine gate_callee (f := 9) rfl ?_); refine goesL_ (some 13) rfl rfl Try.func9 (by kernel_rfl) rfl #[.string (⟨#[115, 48, 48, 48, 48, 48, 48, 52, 97]⟩ : ByteArray)] rfl (by (try simp only [List.map_toArray, List.map_cons, List.map_nil]); first | done | rfl | (simp only [List.length_drop, List.length_take]; rfl)) ?_; (with_reducible refine (name_Parse.calls (⟨#[115, 48, 48, 48, 48, 48, 48, 52, 97]⟩ : ByteArray) t108 t109 t110 _ A2.out).mono ?_); rintro e w56 ⟨rfl, hb⟩; refine ⟨_, rfl, ?_⟩; have n0_ := Aside0.mk (below_step (by repeat (first | (with_reducible first | exact HB.out | apply below_alloc | apply pw_below_drewN | apply below_drew1) | exact HB.out)) hb); clear HB; have HB := n0_; clear n0_; (try clear hb); (try clear hb2); (try clear hk); (try clear hi)) | ((with_reducible refine gate_callee (f := 11) rfl ?_); refine goesL_ (some 17) rfl rfl Try.func11 (by kernel_rfl) rfl #[.int .i64 1, .int .i64 42] rfl (by (try simp only [List.map_toArray, List.map_cons, List.map_nil]); first | done | rfl | (simp only [List.length_drop, List.length_take]; rfl)) ?_; (with_reducible refine (name_Of.calls k 1 42 t111 _ A3.out).mono ?_); rintro e w57 ⟨rfl, hb⟩; refine ⟨_, rfl, ?_⟩; have n0_ := Aside0.mk (below_step (by repeat (first | (with_reducible first | exact HB.out | apply below_alloc | apply pw_below_drewN | apply below_drew1) | exact HB.out)) hb); clear HB; have HB := n0_; clear n0_; (try clear hb); (try clear hb2); (try clear hk); (try clear hi)) | (go_at_call 11; (with_reducible refine (name_Of.calls k 3 0 t112 _ A5.out).mono ?_); rintro e w58 ⟨rfl, hb⟩; have n0_ := Aside0.mk (below_step (by repeat (first | (with_reducible first | exact HB.out | apply below_alloc | apply pw_below_drewN | apply below_drew1) | exact HB.out)) hb); clear HB; have HB := n0_; clear n0_; (try clear hb); (try clear hb2); (try clear hk); (try clear hi)) | (go_at_call 11; (with_reducible refine (name_Of.calls k 4 0 t113 _ A7.out).mono ?_); rintro e w59 ⟨rfl, hb⟩; have n0_ := Aside0.mk (below_step (by repeat (first | (with_reducible first | exact HB.out | apply below_alloc | apply pw_below_drewN | apply below_drew1) | exact HB.out)) hb); clear HB; have HB := n0_; clear n0_; (try clear hb); (try clear hb2); (try clear hk); (try clear hi)) | (go_at_call 11; (with_reducible refine (name_Of.calls k 3 1 t114 _ A9.out).mono ?_); rintro e w60 ⟨rfl, hb⟩; have n0_ := Aside0.mk (below_step (by repeat (first | (with_reducible first | exact HB.out | apply below_alloc | apply pw_below_drewN | apply below_drew1) | exact HB.out)) hb); clear HB; have HB := n0_; clear n0_; (try clear hb); (try clear hb2); (try clear hk); (try clear hi)) | (go_at_call 11; (with_reducible refine (name_Of.calls k 1 100000000 t115 _ A11.out).mono ?_); rintro e w61 ⟨rfl, hb⟩; have n0_ := Aside0.mk (below_step (by repeat (first | (with_reducible first | exact HB.out | apply below_alloc | apply pw_below_drewN | apply below_drew1) | exact HB.out)) hb); clear HB; have HB := n0_; clear n0_; (try clear hb); (try clear hb2); (try clear hk); (try clear hi)))
              go_ret
              exact ⟨by first | rfl | (simp [errW_none, errW_some] <;> rfl) | (simp [*, errW_none, errW_some] <;> rfl), by repeat (first | (with_reducible first | exact HB.out | apply below_alloc | apply pw_below_drewN | apply below_drew1) | exact HB.out)⟩
          · rw [if_neg c12] at H
            have c12b0 : (t115.toList == ([] : List UInt8)) = false := beq_eq_false_iff_ne.mpr c12
            have c12b1 : (t115.toList != ([] : List UInt8)) = true := bne_iff_ne.mpr c12
            obtain rfl := Option.some.inj H
            go_enter Try.func8, Try.ntmps8
            go_wp2_with (first | ((with_reducible refine gate_callee (f := 9) rfl ?_); refine goesL_ (some 8) rfl rfl Try.func9 (by kernel_rfl) rfl #[.string (⟨#[104, 48, 48, 48, 48, 48, 48, 52, 50]⟩ : ByteArray)] rfl (by (try simp only [List.map_toArray, List.map_cons, List.map_nil]); first | done | rfl | (simp only [List.length_drop, List.length_take]; rfl)) ?_; (with_reducible refine (name_Parse.calls (⟨#[104, 48, 48, 48, 48, 48, 48, 52, 50]⟩ : ByteArray) t105 t106 t107 _ A1.out).mono ?_); rintro e w62 ⟨rfl, hb⟩; refine ⟨_, rfl, ?_⟩; have n0_ := Aside0.mk (below_step (by repeat (first | (with_reducible first | exact HB.out | apply below_alloc | apply pw_below_drewN | apply below_drew1) | exact HB.out)) hb); clear HB; have HB := n0_; clear n0_; (try clear hb); (try clear hb2); (try clear hk); (try clear hi)) | ((with_reducible refine gate_callee (f := 9) rfl ?_); refine goesL_ (some 13) rfl rfl Try.func9 (by kernel_rfl) rfl #[.string (⟨#[115, 48, 48, 48, 48, 48, 48, 52, 97]⟩ : ByteArray)] rfl (by (try simp only [List.map_toArray, List.map_cons, List.map_nil]); first | done | rfl | (simp only [List.length_drop, List.length_take]; rfl)) ?_; (with_reducible refine (name_Parse.calls (⟨#[115, 48, 48, 48, 48, 48, 48, 52, 97]⟩ : ByteArray) t108 t109 t110 _ A2.out).mono ?_); rintro e w63 ⟨rfl, hb⟩; refine ⟨_, rfl, ?_⟩; have n0_ := Aside0.mk (below_step (by repeat (first | (with_reducible first | exact HB.out | apply below_alloc | apply pw_below_drewN | apply below_drew1) | exact HB.out)) hb); clear HB; have HB := n0_; clear n0_; (try clear hb); (try clear hb2); (try clear hk); (try clear hi)) | ((with_reducible refine gate_callee (f := 11) rfl ?_); refine goesL_ (some 17) rfl rfl Try.func11 (by kernel_rfl) rfl #[.int .i64 1, .int .i64 42] rfl (by (try simp only [List.map_toArray, List.map_cons, List.map_nil]); first | done | rfl | (simp only [List.length_drop, List.length_take]; rfl)) ?_; (with_reducible refine (name_Of.calls k 1 42 t111 _ A3.out).mono ?_); rintro e w64 ⟨rfl, hb⟩; refine ⟨_, rfl, ?_⟩; have n0_ := Aside0.mk (below_step (by repeat (first | (with_reducible first | exact HB.out | apply below_alloc | apply pw_below_drewN | apply below_drew1) | exact HB.out)) hb); clear HB; have HB := n0_; clear n0_; (try clear hb); (try clear hb2); (try clear hk); (try clear hi)) | (go_at_call 11; (with_reducible refine (name_Of.calls k 3 0 t112 _ A5.out).mono ?_); rintro e w65 ⟨rfl, hb⟩; have n0_ := Aside0.mk (below_step (by repeat (first | (with_reducible first | exact HB.out | apply below_alloc | apply pw_below_drewN | apply below_drew1) | exact HB.out)) hb); clear HB; have HB := n0_; clear n0_; (try clear hb); (try clear hb2); (try clear hk); (try clear hi)) | (go_at_call 11; (with_reducible refine (name_Of.calls k 4 0 t113 _ A7.out).mono ?_); rintro e w66 ⟨rfl, hb⟩; have n0_ := Aside0.mk (below_step (by repeat (first | (with_reducible first | exact HB.out | apply below_alloc | apply pw_below_drewN | apply below_drew1) | exact HB.out)) hb); clear HB; have HB := n0_; clear n0_; (try clear hb); (try clear hb2); (try clear hk); (try clear hi)) | (go_at_call 11; (with_reducible refine (name_Of.calls k 3 1 t114 _ A9.out).mono ?_); rintro e w67 ⟨rfl, hb⟩; have n0_ := Aside0.mk (below_step (by repeat (first | (with_reducible first | exact HB.out | apply below_alloc | apply pw_below_drewN | apply below_drew1) | exact HB.out)) hb); clear HB; have HB := n0_; clear n0_; (try clear hb); (try clear hb2); (try clear hk); (try clear hi)) | (go_at_call 11; (with_reducible refine (name_Of.calls k 1 100000000 t115 _ A11.out).mono ?_); rintro e w68 ⟨rfl, hb⟩; have n0_ := Aside0.mk (below_step (by repeat (first | (with_reducible first | exact HB.out | apply below_alloc | apply pw_below_drewN | apply below_drew1) | exact HB.out)) hb); clear HB; have HB := n0_; clear n0_; (try clear hb); (try clear hb2); (try clear hk); (try clear hi)))
            go_ret
            exact ⟨by first | rfl | (simp [errW_none, errW_some] <;> rfl) | (simp [*, errW_none, errW_some] <;> rfl), by repeat (first | (with_reducible first | exact HB.out | apply below_alloc | apply pw_below_drewN | apply below_drew1) | exact HB.out)⟩
        · rw [if_neg c10] at H
          have c10b0 : (t114.toList == ([] : List UInt8)) = false := beq_eq_false_iff_ne.mpr c10
          have c10b1 : (t114.toList != ([] : List UInt8)) = true := bne_iff_ne.mpr c10
          obtain rfl := Option.some.inj H
          go_enter Try.func8, Try.ntmps8
          go_wp2_with (first | ((with_reducible refine gate_callee (f := 9) rfl ?_); refine goesL_ (some 8) rfl rfl Try.func9 (by kernel_rfl) rfl #[.string (⟨#[104, 48, 48, 48, 48, 48, 48, 52, 50]⟩ : ByteArray)] rfl (by (try simp only [List.map_toArray, List.map_cons, List.map_nil]); first | done | rfl | (simp only [List.length_drop, List.length_take]; rfl)) ?_; (with_reducible refine (name_Parse.calls (⟨#[104, 48, 48, 48, 48, 48, 48, 52, 50]⟩ : ByteArray) t105 t106 t107 _ A1.out).mono ?_); rintro e w69 ⟨rfl, hb⟩; refine ⟨_, rfl, ?_⟩; have n0_ := Aside0.mk (below_step (by repeat (first | (with_reducible first | exact HB.out | apply below_alloc | apply pw_below_drewN | apply below_drew1) | exact HB.out)) hb); clear HB; have HB := n0_; clear n0_; (try clear hb); (try clear hb2); (try clear hk); (try clear hi)) | ((with_reducible refine gate_callee (f := 9) rfl ?_); refine goesL_ (some 13) rfl rfl Try.func9 (by kernel_rfl) rfl #[.string (⟨#[115, 48, 48, 48, 48, 48, 48, 52, 97]⟩ : ByteArray)] rfl (by (try simp only [List.map_toArray, List.map_cons, List.map_nil]); first | done | rfl | (simp only [List.length_drop, List.length_take]; rfl)) ?_; (with_reducible refine (name_Parse.calls (⟨#[115, 48, 48, 48, 48, 48, 48, 52, 97]⟩ : ByteArray) t108 t109 t110 _ A2.out).mono ?_); rintro e w70 ⟨rfl, hb⟩; refine ⟨_, rfl, ?_⟩; have n0_ := Aside0.mk (below_step (by repeat (first | (with_reducible first | exact HB.out | apply below_alloc | apply pw_below_drewN | apply below_drew1) | exact HB.out)) hb); clear HB; have HB := n0_; clear n0_; (try clear hb); (try clear hb2); (try clear hk); (try clear hi)) | ((with_reducible refine gate_callee (f := 11) rfl ?_); refine goesL_ (some 17) rfl rfl Try.func11 (by kernel_rfl) rfl #[.int .i64 1, .int .i64 42] rfl (by (try simp only [List.map_toArray, List.map_cons, List.map_nil]); first | done | rfl | (simp only [List.length_drop, List.length_take]; rfl)) ?_; (with_reducible refine (name_Of.calls k 1 42 t111 _ A3.out).mono ?_); rintro e w71 ⟨rfl, hb⟩; refine ⟨_, rfl, ?_⟩; have n0_ := Aside0.mk (below_step (by repeat (first | (with_reducible first | exact HB.out | apply below_alloc | apply pw_below_drewN | apply below_drew1) | exact HB.out)) hb); clear HB; have HB := n0_; clear n0_; (try clear hb); (try clear hb2); (try clear hk); (try clear hi)) | (go_at_call 11; (with_reducible refine (name_Of.calls k 3 0 t112 _ A5.out).mono ?_); rintro e w72 ⟨rfl, hb⟩; have n0_ := Aside0.mk (below_step (by repeat (first | (with_reducible first | exact HB.out | apply below_alloc | apply pw_below_drewN | apply below_drew1) | exact HB.out)) hb); clear HB; have HB := n0_; clear n0_; (try clear hb); (try clear hb2); (try clear hk); (try clear hi)) | (go_at_call 11; (with_reducible refine (name_Of.calls k 4 0 t113 _ A7.out).mono ?_); rintro e w73 ⟨rfl, hb⟩; have n0_ := Aside0.mk (below_step (by repeat (first | (with_reducible first | exact HB.out | apply below_alloc | apply pw_below_drewN | apply below_drew1) | exact HB.out)) hb); clear HB; have HB := n0_; clear n0_; (try clear hb); (try clear hb2); (try clear hk); (try clear hi)) | (go_at_call 11; (with_reducible refine (name_Of.calls k 3 1 t114 _ A9.out).mono ?_); rintro e w74 ⟨rfl, hb⟩; have n0_ := Aside0.mk (below_step (by repeat (first | (with_reducible first | exact HB.out | apply below_alloc | apply pw_below_drewN | apply below_drew1) | exact HB.out)) hb); clear HB; have HB := n0_; clear n0_; (try clear hb); (try clear hb2); (try clear hk); (try clear hi)))
          go_ret
          exact ⟨by first | rfl | (simp [errW_none, errW_some] <;> rfl) | (simp [*, errW_none, errW_some] <;> rfl), by repeat (first | (with_reducible first | exact HB.out | apply below_alloc | apply pw_below_drewN | apply below_drew1) | exact HB.out)⟩
      · rw [if_neg c8] at H
        have c8b0 : (t113.toList == ([116] : List UInt8)) = false := beq_eq_false_iff_ne.mpr c8
        have c8b1 : (t113.toList != ([116] : List UInt8)) = true := bne_iff_ne.mpr c8
        obtain rfl := Option.some.inj H
        go_enter Try.func8, Try.ntmps8
        go_wp2_with (first | ((with_reducible refine gate_callee (f := 9) rfl ?_); refine goesL_ (some 8) rfl rfl Try.func9 (by kernel_rfl) rfl #[.string (⟨#[104, 48, 48, 48, 48, 48, 48, 52, 50]⟩ : ByteArray)] rfl (by (try simp only [List.map_toArray, List.map_cons, List.map_nil]); first | done | rfl | (simp only [List.length_drop, List.length_take]; rfl)) ?_; (with_reducible refine (name_Parse.calls (⟨#[104, 48, 48, 48, 48, 48, 48, 52, 50]⟩ : ByteArray) t105 t106 t107 _ A1.out).mono ?_); rintro e w75 ⟨rfl, hb⟩; refine ⟨_, rfl, ?_⟩; have n0_ := Aside0.mk (below_step (by repeat (first | (with_reducible first | exact HB.out | apply below_alloc | apply pw_below_drewN | apply below_drew1) | exact HB.out)) hb); clear HB; have HB := n0_; clear n0_; (try clear hb); (try clear hb2); (try clear hk); (try clear hi)) | ((with_reducible refine gate_callee (f := 9) rfl ?_); refine goesL_ (some 13) rfl rfl Try.func9 (by kernel_rfl) rfl #[.string (⟨#[115, 48, 48, 48, 48, 48, 48, 52, 97]⟩ : ByteArray)] rfl (by (try simp only [List.map_toArray, List.map_cons, List.map_nil]); first | done | rfl | (simp only [List.length_drop, List.length_take]; rfl)) ?_; (with_reducible refine (name_Parse.calls (⟨#[115, 48, 48, 48, 48, 48, 48, 52, 97]⟩ : ByteArray) t108 t109 t110 _ A2.out).mono ?_); rintro e w76 ⟨rfl, hb⟩; refine ⟨_, rfl, ?_⟩; have n0_ := Aside0.mk (below_step (by repeat (first | (with_reducible first | exact HB.out | apply below_alloc | apply pw_below_drewN | apply below_drew1) | exact HB.out)) hb); clear HB; have HB := n0_; clear n0_; (try clear hb); (try clear hb2); (try clear hk); (try clear hi)) | ((with_reducible refine gate_callee (f := 11) rfl ?_); refine goesL_ (some 17) rfl rfl Try.func11 (by kernel_rfl) rfl #[.int .i64 1, .int .i64 42] rfl (by (try simp only [List.map_toArray, List.map_cons, List.map_nil]); first | done | rfl | (simp only [List.length_drop, List.length_take]; rfl)) ?_; (with_reducible refine (name_Of.calls k 1 42 t111 _ A3.out).mono ?_); rintro e w77 ⟨rfl, hb⟩; refine ⟨_, rfl, ?_⟩; have n0_ := Aside0.mk (below_step (by repeat (first | (with_reducible first | exact HB.out | apply below_alloc | apply pw_below_drewN | apply below_drew1) | exact HB.out)) hb); clear HB; have HB := n0_; clear n0_; (try clear hb); (try clear hb2); (try clear hk); (try clear hi)) | (go_at_call 11; (with_reducible refine (name_Of.calls k 3 0 t112 _ A5.out).mono ?_); rintro e w78 ⟨rfl, hb⟩; have n0_ := Aside0.mk (below_step (by repeat (first | (with_reducible first | exact HB.out | apply below_alloc | apply pw_below_drewN | apply below_drew1) | exact HB.out)) hb); clear HB; have HB := n0_; clear n0_; (try clear hb); (try clear hb2); (try clear hk); (try clear hi)) | (go_at_call 11; (with_reducible refine (name_Of.calls k 4 0 t113 _ A7.out).mono ?_); rintro e w79 ⟨rfl, hb⟩; have n0_ := Aside0.mk (below_step (by repeat (first | (with_reducible first | exact HB.out | apply below_alloc | apply pw_below_drewN | apply below_drew1) | exact HB.out)) hb); clear HB; have HB := n0_; clear n0_; (try clear hb); (try clear hb2); (try clear hk); (try clear hi)))
        go_ret
        exact ⟨by first | rfl | (simp [errW_none, errW_some] <;> rfl) | (simp [*, errW_none, errW_some] <;> rfl), by repeat (first | (with_reducible first | exact HB.out | apply below_alloc | apply pw_below_drewN | apply below_drew1) | exact HB.out)⟩
    · rw [if_neg c6] at H
      have c6b0 : (t112.toList == ([109] : List UInt8)) = false := beq_eq_false_iff_ne.mpr c6
      have c6b1 : (t112.toList != ([109] : List UInt8)) = true := bne_iff_ne.mpr c6
      obtain rfl := Option.some.inj H
      go_enter Try.func8, Try.ntmps8
      go_wp2_with (first | ((with_reducible refine gate_callee (f := 9) rfl ?_); refine goesL_ (some 8) rfl rfl Try.func9 (by kernel_rfl) rfl #[.string (⟨#[104, 48, 48, 48, 48, 48, 48, 52, 50]⟩ : ByteArray)] rfl (by (try simp only [List.map_toArray, List.map_cons, List.map_nil]); first | done | rfl | (simp only [List.length_drop, List.length_take]; rfl)) ?_; (with_reducible refine (name_Parse.calls (⟨#[104, 48, 48, 48, 48, 48, 48, 52, 50]⟩ : ByteArray) t105 t106 t107 _ A1.out).mono ?_); rintro e w80 ⟨rfl, hb⟩; refine ⟨_, rfl, ?_⟩; have n0_ := Aside0.mk (below_step (by repeat (first | (with_reducible first | exact HB.out | apply below_alloc | apply pw_below_drewN | apply below_drew1) | exact HB.out)) hb); clear HB; have HB := n0_; clear n0_; (try clear hb); (try clear hb2); (try clear hk); (try clear hi)) | ((with_reducible refine gate_callee (f := 9) rfl ?_); refine goesL_ (some 13) rfl rfl Try.func9 (by kernel_rfl) rfl #[.string (⟨#[115, 48, 48, 48, 48, 48, 48, 52, 97]⟩ : ByteArray)] rfl (by (try simp only [List.map_toArray, List.map_cons, List.map_nil]); first | done | rfl | (simp only [List.length_drop, List.length_take]; rfl)) ?_; (with_reducible refine (name_Parse.calls (⟨#[115, 48, 48, 48, 48, 48, 48, 52, 97]⟩ : ByteArray) t108 t109 t110 _ A2.out).mono ?_); rintro e w81 ⟨rfl, hb⟩; refine ⟨_, rfl, ?_⟩; have n0_ := Aside0.mk (below_step (by repeat (first | (with_reducible first | exact HB.out | apply below_alloc | apply pw_below_drewN | apply below_drew1) | exact HB.out)) hb); clear HB; have HB := n0_; clear n0_; (try clear hb); (try clear hb2); (try clear hk); (try clear hi)) | ((with_reducible refine gate_callee (f := 11) rfl ?_); refine goesL_ (some 17) rfl rfl Try.func11 (by kernel_rfl) rfl #[.int .i64 1, .int .i64 42] rfl (by (try simp only [List.map_toArray, List.map_cons, List.map_nil]); first | done | rfl | (simp only [List.length_drop, List.length_take]; rfl)) ?_; (with_reducible refine (name_Of.calls k 1 42 t111 _ A3.out).mono ?_); rintro e w82 ⟨rfl, hb⟩; refine ⟨_, rfl, ?_⟩; have n0_ := Aside0.mk (below_step (by repeat (first | (with_reducible first | exact HB.out | apply below_alloc | apply pw_below_drewN | apply below_drew1) | exact HB.out)) hb); clear HB; have HB := n0_; clear n0_; (try clear hb); (try clear hb2); (try clear hk); (try clear hi)) | (go_at_call 11; (with_reducible refine (name_Of.calls k 3 0 t112 _ A5.out).mono ?_); rintro e w83 ⟨rfl, hb⟩; have n0_ := Aside0.mk (below_step (by repeat (first | (with_reducible first | exact HB.out | apply below_alloc | apply pw_below_drewN | apply below_drew1) | exact HB.out)) hb); clear HB; have HB := n0_; clear n0_; (try clear hb); (try clear hb2); (try clear hk); (try clear hi)))
      go_ret
      exact ⟨by first | rfl | (simp [errW_none, errW_some] <;> rfl) | (simp [*, errW_none, errW_some] <;> rfl), by repeat (first | (with_reducible first | exact HB.out | apply below_alloc | apply pw_below_drewN | apply below_drew1) | exact HB.out)⟩
  · rw [if_neg c4] at H
    have c4b0 : (t111.toList == ([115, 48, 48, 48, 48, 48, 48, 52, 50] : List UInt8)) = false := beq_eq_false_iff_ne.mpr c4
    have c4b1 : (t111.toList != ([115, 48, 48, 48, 48, 48, 48, 52, 50] : List UInt8)) = true := bne_iff_ne.mpr c4
    obtain rfl := Option.some.inj H
    go_enter Try.func8, Try.ntmps8
    go_wp2_with (first | ((with_reducible refine gate_callee (f := 9) rfl ?_); refine goesL_ (some 8) rfl rfl Try.func9 (by kernel_rfl) rfl #[.string (⟨#[104, 48, 48, 48, 48, 48, 48, 52, 50]⟩ : ByteArray)] rfl (by (try simp only [List.map_toArray, List.map_cons, List.map_nil]); first | done | rfl | (simp only [List.length_drop, List.length_take]; rfl)) ?_; (with_reducible refine (name_Parse.calls (⟨#[104, 48, 48, 48, 48, 48, 48, 52, 50]⟩ : ByteArray) t105 t106 t107 _ A1.out).mono ?_); rintro e w84 ⟨rfl, hb⟩; refine ⟨_, rfl, ?_⟩; have n0_ := Aside0.mk (below_step (by repeat (first | (with_reducible first | exact HB.out | apply below_alloc | apply pw_below_drewN | apply below_drew1) | exact HB.out)) hb); clear HB; have HB := n0_; clear n0_; (try clear hb); (try clear hb2); (try clear hk); (try clear hi)) | ((with_reducible refine gate_callee (f := 9) rfl ?_); refine goesL_ (some 13) rfl rfl Try.func9 (by kernel_rfl) rfl #[.string (⟨#[115, 48, 48, 48, 48, 48, 48, 52, 97]⟩ : ByteArray)] rfl (by (try simp only [List.map_toArray, List.map_cons, List.map_nil]); first | done | rfl | (simp only [List.length_drop, List.length_take]; rfl)) ?_; (with_reducible refine (name_Parse.calls (⟨#[115, 48, 48, 48, 48, 48, 48, 52, 97]⟩ : ByteArray) t108 t109 t110 _ A2.out).mono ?_); rintro e w85 ⟨rfl, hb⟩; refine ⟨_, rfl, ?_⟩; have n0_ := Aside0.mk (below_step (by repeat (first | (with_reducible first | exact HB.out | apply below_alloc | apply pw_below_drewN | apply below_drew1) | exact HB.out)) hb); clear HB; have HB := n0_; clear n0_; (try clear hb); (try clear hb2); (try clear hk); (try clear hi)) | ((with_reducible refine gate_callee (f := 11) rfl ?_); refine goesL_ (some 17) rfl rfl Try.func11 (by kernel_rfl) rfl #[.int .i64 1, .int .i64 42] rfl (by (try simp only [List.map_toArray, List.map_cons, List.map_nil]); first | done | rfl | (simp only [List.length_drop, List.length_take]; rfl)) ?_; (with_reducible refine (name_Of.calls k 1 42 t111 _ A3.out).mono ?_); rintro e w86 ⟨rfl, hb⟩; refine ⟨_, rfl, ?_⟩; have n0_ := Aside0.mk (below_step (by repeat (first | (with_reducible first | exact HB.out | apply below_alloc | apply pw_below_drewN | apply below_drew1) | exact HB.out)) hb); clear HB; have HB := n0_; clear n0_; (try clear hb); (try clear hb2); (try clear hk); (try clear hi)))
    go_ret
    exact ⟨by first | rfl | (simp [errW_none, errW_some] <;> rfl) | (simp [*, errW_none, errW_some] <;> rfl), by repeat (first | (with_reducible first | exact HB.out | apply below_alloc | apply pw_below_drewN | apply below_drew1) | exact HB.out)⟩

/-! ### souterrainref05_Of: function 12 -/
mutual
def souterrainref05_Of.j0 : Nat → Int → Int → Bool → Option (ByteArray)
  | 0, _, _, _ => none
  | k + 1, x0, x1, x28 => if x28 = true then (some (⟨#[]⟩ : ByteArray)) else (if x0 = 3 then (some (⟨#[109]⟩ : ByteArray)) else (if x0 = 4 then (some (⟨#[116]⟩ : ByteArray)) else (souterrainref05_Of.l0 k x0 x1 (⟨#[]⟩ : ByteArray) 0)))
def souterrainref05_Of.l0 : Nat → Int → Int → ByteArray → Int → Option (ByteArray)
  | 0, _, _, _, _ => none
  | k + 1, x0, x1, x5, x6 => if x6 < 8 then ((some (([(wrap64 (48 + (Int.tmod x1 10))) % 256] : List Int) : List Int)).bind fun y126 => (if (strOfNums y126).size + x5.size ≤ 9223372036854775807 then (souterrainref05_Of.l0 k x0 (wrap64 (Int.tdiv x1 10)) ((strOfNums y126) ++ x5) (wrap64 (x6 + 1))) else (none))) else (if x0 = 1 then (if 1 + x5.size ≤ 9223372036854775807 then (some ((⟨#[115]⟩ : ByteArray) ++ x5)) else (none)) else (if 1 + x5.size ≤ 9223372036854775807 then (some ((⟨#[104]⟩ : ByteArray) ++ x5)) else (none)))
end
def souterrainref05_Of.f (k : Nat) (a0 : Int) (a1 : Int) : Option (ByteArray) := if a1 < 0 then (souterrainref05_Of.j0 k a0 a1 true) else (if a1 > 99999999 then (souterrainref05_Of.j0 k a0 a1 true) else (if a0 < 1 then (souterrainref05_Of.j0 k a0 a1 true) else (if a0 > 4 then (souterrainref05_Of.j0 k a0 a1 true) else (if a0 > 2 then (souterrainref05_Of.j0 k a0 a1 (decide (a1 > 0))) else (souterrainref05_Of.j0 k a0 a1 false)))))
theorem souterrainref05_Of.mono_l : ∀ k, (∀ y0 y1 y2, LeO (souterrainref05_Of.j0 k y0 y1 y2) (souterrainref05_Of.j0 (k + 1) y0 y1 y2)) ∧ (∀ y0 y1 y2 y3, LeO (souterrainref05_Of.l0 k y0 y1 y2 y3) (souterrainref05_Of.l0 (k + 1) y0 y1 y2 y3))
  | 0 => ⟨fun _ _ _ r h => by simp [souterrainref05_Of.j0] at h, fun _ _ _ _ r h => by simp [souterrainref05_Of.l0] at h⟩
  | k + 1 => by
    obtain ⟨ih0, ih1⟩ := souterrainref05_Of.mono_l k
    refine ⟨?_, ?_⟩
    · intro y0 y1 y2
      unfold souterrainref05_Of.j0
      repeat' first
      | (with_reducible exact ih0 _ _ _)
      | (with_reducible exact ih1 _ _ _ _)
      | (with_reducible exact LeO.refl _)
      | (with_reducible exact LeO.none _)
      | (with_reducible refine LeO.ite ?_ ?_)
      | (with_reducible refine LeO.bind ?_ (fun _ => ?_))
      | exact ih0 _ _ _
      | exact ih1 _ _ _ _
      | exact LeO.none _
      | refine LeO.ite ?_ ?_
      | refine LeO.bind ?_ (fun _ => ?_)
    · intro y0 y1 y2 y3
      unfold souterrainref05_Of.l0
      repeat' first
      | (with_reducible exact ih0 _ _ _)
      | (with_reducible exact ih1 _ _ _ _)
      | (with_reducible exact LeO.refl _)
      | (with_reducible exact LeO.none _)
      | (with_reducible refine LeO.ite ?_ ?_)
      | (with_reducible refine LeO.bind ?_ (fun _ => ?_))
      | exact ih0 _ _ _
      | exact ih1 _ _ _ _
      | exact LeO.none _
      | refine LeO.ite ?_ ?_
      | refine LeO.bind ?_ (fun _ => ?_)
theorem souterrainref05_Of.mono : ∀ a0 a1 k, LeO (souterrainref05_Of.f k a0 a1) (souterrainref05_Of.f (k + 1) a0 a1) := by
  intro a0 a1 k
  obtain ⟨ih0, ih1⟩ := souterrainref05_Of.mono_l k
  unfold souterrainref05_Of.f
  repeat' first
      | (with_reducible exact ih0 _ _ _)
      | (with_reducible exact ih1 _ _ _ _)
      | (with_reducible exact LeO.refl _)
      | (with_reducible exact LeO.none _)
      | (with_reducible refine LeO.ite ?_ ?_)
      | (with_reducible refine LeO.bind ?_ (fun _ => ?_))
      | exact ih0 _ _ _
      | exact ih1 _ _ _ _
      | exact LeO.none _
      | refine LeO.ite ?_ ?_
      | refine LeO.bind ?_ (fun _ => ?_)
set_option maxHeartbeats 8000000 in
set_option maxRecDepth 100000 in
theorem souterrainref05_Of.calls (k : Nat) (a0 : Int) (a1 : Int) (r : ByteArray) (w : World) (h : souterrainref05_Of.f k a0 a1 = some r) :
    Calls Try.prog 12 #[.int .i64 a0, .int .i64 a1] w fun e w' => e = .returned (.string r) ∧ Below w.heap.size w w' := by
  have HB := Aside0.mk (Below.refl w.heap.size w)
  have H : (if a1 < 0 then (souterrainref05_Of.j0 k a0 a1 true) else (if a1 > 99999999 then (souterrainref05_Of.j0 k a0 a1 true) else (if a0 < 1 then (souterrainref05_Of.j0 k a0 a1 true) else (if a0 > 4 then (souterrainref05_Of.j0 k a0 a1 true) else (if a0 > 2 then (souterrainref05_Of.j0 k a0 a1 (decide (a1 > 0))) else (souterrainref05_Of.j0 k a0 a1 false)))))) = some r := h
  clear h
  have HC3 := Aside0.mk H
  clear H
  go_enter Try.func12, Try.ntmps12
  go_upto_region 1 with (fail)
  go_cut [28] (fun v28 wc => ∃ (kq : Nat) (x28_2 : Bool), v28 = .bool x28_2 ∧ Aside0 (souterrainref05_Of.j0 kq a0 a1 x28_2 = some r) ∧ Aside0 (kq ≤ k) ∧ Aside0 (Below w.heap.size w wc))
  case first =>
    have H := HC3.out
    clear HC3
    by_cases c4 : a1 < 0
    · rw [if_pos c4] at H
      have c4b0 : decide (a1 < 0) = true := decide_eq_true c4
      clear c4
      (first | rw [c4b0] | (simp only [i64_w, i32_w]; rw [c4b0]) | skip)
      have H' := Aside0.mk H
      clear H
      go_wp2
      go_meet
      case rel => exact ⟨_, (true), (by first | rfl | (simp; done) | (simp [*]; done)), H', ⟨by first | omega | exact Nat.le_refl _⟩, ⟨by repeat (first | (with_reducible first | exact HB.out | apply below_alloc | apply pw_below_drewN | apply below_drew1) | exact HB.out)⟩⟩
    · rw [if_neg c4] at H
      have c4b0 : decide (a1 < 0) = false := decide_eq_false c4
      clear c4
      (first | rw [c4b0] | (simp only [i64_w, i32_w]; rw [c4b0]) | skip)
      by_cases c5 : a1 > 99999999
      · rw [if_pos c5] at H
        have c5b0 : decide (99999999 < a1) = true := decide_eq_true c5
        clear c5
        have H' := Aside0.mk H
        clear H
        go_wp2
        go_meet
        case rel => exact ⟨_, (true), (by first | rfl | (simp; done) | (simp [*]; done)), H', ⟨by first | omega | exact Nat.le_refl _⟩, ⟨by repeat (first | (with_reducible first | exact HB.out | apply below_alloc | apply pw_below_drewN | apply below_drew1) | exact HB.out)⟩⟩
      · rw [if_neg c5] at H
        have c5b0 : decide (99999999 < a1) = false := decide_eq_false c5
        clear c5
        by_cases c6 : a0 < 1
        · rw [if_pos c6] at H
          have c6b0 : decide (a0 < 1) = true := decide_eq_true c6
          clear c6
          have H' := Aside0.mk H
          clear H
          go_wp2
          go_meet
          case rel => exact ⟨_, (true), (by first | rfl | (simp; done) | (simp [*]; done)), H', ⟨by first | omega | exact Nat.le_refl _⟩, ⟨by repeat (first | (with_reducible first | exact HB.out | apply below_alloc | apply pw_below_drewN | apply below_drew1) | exact HB.out)⟩⟩
        · rw [if_neg c6] at H
          have c6b0 : decide (a0 < 1) = false := decide_eq_false c6
          clear c6
          by_cases c7 : a0 > 4
          · rw [if_pos c7] at H
            have c7b0 : decide (4 < a0) = true := decide_eq_true c7
            clear c7
            have H' := Aside0.mk H
            clear H
            go_wp2
            go_meet
            case rel => exact ⟨_, (true), (by first | rfl | (simp; done) | (simp [*]; done)), H', ⟨by first | omega | exact Nat.le_refl _⟩, ⟨by repeat (first | (with_reducible first | exact HB.out | apply below_alloc | apply pw_below_drewN | apply below_drew1) | exact HB.out)⟩⟩
          · rw [if_neg c7] at H
            have c7b0 : decide (4 < a0) = false := decide_eq_false c7
            clear c7
            by_cases c8 : a0 > 2
            · rw [if_pos c8] at H
              have c8b0 : decide (2 < a0) = true := decide_eq_true c8
              clear c8
              have H' := Aside0.mk H
              clear H
              go_wp2
              go_meet
              case rel => exact ⟨_, (decide (a1 > 0)), (by first | rfl | (simp; done) | (simp [*]; done)), H', ⟨by first | omega | exact Nat.le_refl _⟩, ⟨by repeat (first | (with_reducible first | exact HB.out | apply below_alloc | apply pw_below_drewN | apply below_drew1) | exact HB.out)⟩⟩
            · rw [if_neg c8] at H
              have c8b0 : decide (2 < a0) = false := decide_eq_false c8
              clear c8
              have H' := Aside0.mk H
              clear H
              go_wp2
              go_meet
              case rel => exact ⟨_, (false), (by first | rfl | (simp; done) | (simp [*]; done)), H', ⟨by first | omega | exact Nat.le_refl _⟩, ⟨by repeat (first | (with_reducible first | exact HB.out | apply below_alloc | apply pw_below_drewN | apply below_drew1) | exact HB.out)⟩⟩
  case rest =>
    clear HC3
    try clear c1
    try clear p2
    try clear c4
    try clear c4b0
    try clear c5
    try clear c5b0
    try clear c6
    try clear c6b0
    try clear c7
    try clear c7b0
    try clear c8
    try clear c8b0
    obtain ⟨kq, x28_2, rfl, HA, HJ2, HB⟩ := hcut
    cases kq with
    | zero => exact absurd HA.out (by simp [souterrainref05_Of.j0])
    | succ kj2 =>
      have H := HA.out
      clear HA
      simp only [souterrainref05_Of.j0] at H
      by_cases c9 : x28_2 = true
      · subst c9
        have H1 : (some (⟨#[]⟩ : ByteArray)) = some r := by rw [if_pos rfl] at H; exact H
        clear H
        have H := H1
        clear H1
        obtain rfl := Option.some.inj H
        go_wp2
        go_ret
        exact ⟨by first | rfl | (simp [errW_none, errW_some] <;> rfl) | (simp [*, errW_none, errW_some] <;> rfl), by repeat (first | (with_reducible first | exact HB.out | apply below_alloc | apply pw_below_drewN | apply below_drew1) | exact HB.out)⟩
      · replace c9 := Bool.eq_false_iff.mpr c9
        subst c9
        have H1 : (if a0 = 3 then (some (⟨#[109]⟩ : ByteArray)) else (if a0 = 4 then (some (⟨#[116]⟩ : ByteArray)) else (souterrainref05_Of.l0 kj2 a0 a1 (⟨#[]⟩ : ByteArray) 0))) = some r := by rw [if_neg (show ¬ (false = true) by decide)] at H; exact H
        clear H
        have H := H1
        clear H1
        by_cases c10 : a0 = 3
        · rw [if_pos c10] at H
          have c10b0 : (a0 == 3) = true := beq_iff_eq.mpr c10
          have c10b1 : (a0 != 3) = false := bne_eq_false_iff_eq.mpr c10
          clear c10
          obtain rfl := Option.some.inj H
          go_wp2
          go_ret
          exact ⟨by first | rfl | (simp [errW_none, errW_some] <;> rfl) | (simp [*, errW_none, errW_some] <;> rfl), by repeat (first | (with_reducible first | exact HB.out | apply below_alloc | apply pw_below_drewN | apply below_drew1) | exact HB.out)⟩
        · rw [if_neg c10] at H
          have c10b0 : (a0 == 3) = false := beq_eq_false_iff_ne.mpr c10
          have c10b1 : (a0 != 3) = true := bne_iff_ne.mpr c10
          by_cases c11 : a0 = 4
          · rw [if_pos c11] at H
            have c11b0 : (a0 == 4) = true := beq_iff_eq.mpr c11
            have c11b1 : (a0 != 4) = false := bne_eq_false_iff_eq.mpr c11
            clear c11
            obtain rfl := Option.some.inj H
            go_wp2
            go_ret
            exact ⟨by first | rfl | (simp [errW_none, errW_some] <;> rfl) | (simp [*, errW_none, errW_some] <;> rfl), by repeat (first | (with_reducible first | exact HB.out | apply below_alloc | apply pw_below_drewN | apply below_drew1) | exact HB.out)⟩
          · rw [if_neg c11] at H
            have c11b0 : (a0 == 4) = false := beq_eq_false_iff_ne.mpr c11
            have c11b1 : (a0 != 4) = true := bne_iff_ne.mpr c11
            have H' := Aside0.mk H
            clear H
            go_wp2
            go_loopg [1, 5, 6] kj2 (fun kq v1 v5 v6 w' => ∃ (x1_2 : Int) (x5_2 : ByteArray) (x6_2 : Int), v1 = .int .i64 x1_2 ∧ v5 = .string x5_2 ∧ v6 = .int .i64 x6_2 ∧ Aside0 (souterrainref05_Of.l0 kq a0 x1_2 x5_2 x6_2 = some r) ∧ Aside0 (kq ≤ kj2) ∧ Aside0 (Below w.heap.size w w'))
            case atStart => exact ⟨(a1), ((⟨#[]⟩ : ByteArray)), (0), (by first | rfl | (simp; done) | (simp [*]; done)), (by first | rfl | (simp; done) | (simp [*]; done)), (by first | rfl | (simp; done) | (simp [*]; done)), H', ⟨Nat.le_refl _⟩, ⟨by repeat (first | (with_reducible first | exact HB.out | apply below_alloc | apply pw_below_drewN | apply below_drew1) | exact HB.out)⟩⟩
            case round =>
              clear H'
              try clear c1
              try clear p2
              try clear c4
              try clear c4b0
              try clear c5
              try clear c5b0
              try clear c6
              try clear c6b0
              try clear c7
              try clear c7b0
              try clear c8
              try clear c8b0
              try clear c9
              try clear c10
              try clear c10b0
              try clear c10b1
              try clear c11
              try clear c11b0
              try clear c11b1
              try clear p2
              obtain ⟨x1_2, x5_2, x6_2, rfl, rfl, rfl, HA, HK2, HB⟩ := hrel
              cases gk with
              | zero => exact absurd HA.out (by simp [souterrainref05_Of.l0])
              | succ k2 =>
                have H := HA.out
                clear HA
                simp only [souterrainref05_Of.l0] at H
                by_cases c12 : x6_2 < 8
                · rw [if_pos c12] at H
                  have c12b0 : decide (x6_2 < 8) = true := decide_eq_true c12
                  clear c12
                  obtain ⟨y126, hy126⟩ : ∃ y_ : List Int, y_ = (([(wrap64 (48 + (Int.tmod x1_2 10))) % 256] : List Int)) := ⟨_, rfl⟩
                  replace H : (if (strOfNums y126).size + x5_2.size ≤ 9223372036854775807 then (souterrainref05_Of.l0 k2 a0 (wrap64 (Int.tdiv x1_2 10)) ((strOfNums y126) ++ x5_2) (wrap64 (x6_2 + 1))) else (none)) = some r := by first | (rw [hy126]; with_reducible exact H) | (have H2_ := (Option.bind_some _ _).symm.trans H; rw [hy126]; with_reducible exact H2_) | (have H2_ := (Option.bind_some _ _).symm.trans H; with_reducible exact H2_) | with_reducible exact H | (rw [hy126]; exact H) | exact H
                  have Ny126 := Aside0.mk hy126
                  clear hy126
                  by_cases c13 : (strOfNums y126).size + x5_2.size ≤ 9223372036854775807
                  · rw [if_pos c13] at H
                    have c13b0 := eq_true c13
                    have c13b1 : decide ((strOfNums y126).size + x5_2.size ≤ 9223372036854775807) = true := decide_eq_true c13
                    try have c13b2 : (9223372036854775807 < (strOfNums y126).size + x5_2.size) = False := eq_false (Nat.not_lt.2 c13)
                    have H' := Aside0.mk H
                    clear H
                    go_wp2_with (first | ((with_reducible refine gate_dst (N := 41) rfl ?_); refine Kd.R_lit (Kd.int .u8) _ 5 ?hg (N := 41) ?hd (xs := ([(wrap64 (48 + (Int.tmod x1_2 10))) % 256] : List Int)) (inner := [.int .u8 ((wrap64 (48 + (Int.tmod x1_2 10))) % 256)]) (ok := fun _ => True) (okp := fun _ => True) ?hr ?hp (fun _ hk => hk) trivial (Below.refl _ _) (Nat.le_refl _) (by simp) ?_; (case hd => rfl); (case hg => rfl); (case hr => first | (go_simp; done) | (go_simp; rfl)); (case hp => exact (Reps.one (show Kd.M (Kd.int .u8) _ _ _ ((wrap64 (48 + (Int.tmod x1_2 10))) % 256) [.int .u8 ((wrap64 (48 + (Int.tmod x1_2 10))) % 256)] from rfl) (Reps.none _ _))); intro v127 w14 ho15 hb hg_ hnew_; clear hg_ hnew_; (first | rw [← Ny126.out] at ho15 | (simp only [Int.reduceToNat] at ho15; rw [← Ny126.out] at ho15)); have n0_ := Aside0.mk (Kd.R_lower ho15 (below_size (by repeat (first | (with_reducible first | exact HB.out | apply below_alloc | apply pw_below_drewN | apply below_drew1) | exact HB.out)))); have n1_ := Aside0.mk (below_step (by repeat (first | (with_reducible first | exact HB.out | apply below_alloc | apply pw_below_drewN | apply below_drew1) | exact HB.out)) hb); clear HB; have HO128 := n0_; have HB := n1_; clear n0_ n1_; clear hb ho15; have hcv16 := own_string (P := Try.prog) Try.underlying42 Try.underlying5 Try.underlying9 (Kd.own_of_R HO128.out)))
                    go_roundg k2
                    case measure => have := HJ2.out; have := HK2.out; omega
                    case rel => exact ⟨(wrap64 (Int.tdiv x1_2 10)), ((strOfNums y126) ++ x5_2), (wrap64 (x6_2 + 1)), (by first | rfl | (simp; done) | (simp [*]; done)), (by first | rfl | (simp; done) | (simp [*]; done)), (by first | rfl | (simp; done) | (simp [*]; done)), H', ⟨by have := HJ2.out; have := HK2.out; omega⟩, ⟨by repeat (first | (with_reducible first | exact HB.out | apply below_alloc | apply pw_below_drewN | apply below_drew1) | exact HB.out)⟩⟩
                  · rw [if_neg c13] at H
                    exact absurd H (by simp)
                · rw [if_neg c12] at H
                  have c12b0 : decide (x6_2 < 8) = false := decide_eq_false c12
                  clear c12
                  by_cases c17 : a0 = 1
                  · rw [if_pos c17] at H
                    have c17b0 : (a0 == 1) = true := beq_iff_eq.mpr c17
                    have c17b1 : (a0 != 1) = false := bne_eq_false_iff_eq.mpr c17
                    clear c17
                    by_cases c18 : 1 + x5_2.size ≤ 9223372036854775807
                    · rw [if_pos c18] at H
                      have c18b0 := eq_true c18
                      have c18b1 : decide (1 + x5_2.size ≤ 9223372036854775807) = true := decide_eq_true c18
                      try have c18b2 : (9223372036854775807 < 1 + x5_2.size) = False := eq_false (Nat.not_lt.2 c18)
                      obtain rfl := Option.some.inj H
                      go_wp2
                      go_ret
                      exact ⟨by first | rfl | (simp [errW_none, errW_some] <;> rfl) | (simp [*, errW_none, errW_some] <;> rfl), by repeat (first | (with_reducible first | exact HB.out | apply below_alloc | apply pw_below_drewN | apply below_drew1) | exact HB.out)⟩
                    · rw [if_neg c18] at H
                      exact absurd H (by simp)
                  · rw [if_neg c17] at H
                    have c17b0 : (a0 == 1) = false := beq_eq_false_iff_ne.mpr c17
                    have c17b1 : (a0 != 1) = true := bne_iff_ne.mpr c17
                    by_cases c19 : 1 + x5_2.size ≤ 9223372036854775807
                    · rw [if_pos c19] at H
                      have c19b0 := eq_true c19
                      have c19b1 : decide (1 + x5_2.size ≤ 9223372036854775807) = true := decide_eq_true c19
                      try have c19b2 : (9223372036854775807 < 1 + x5_2.size) = False := eq_false (Nat.not_lt.2 c19)
                      obtain rfl := Option.some.inj H
                      go_wp2
                      go_ret
                      exact ⟨by first | rfl | (simp [errW_none, errW_some] <;> rfl) | (simp [*, errW_none, errW_some] <;> rfl), by repeat (first | (with_reducible first | exact HB.out | apply below_alloc | apply pw_below_drewN | apply below_drew1) | exact HB.out)⟩
                    · rw [if_neg c19] at H
                      exact absurd H (by simp)

end Go.Proofs.Ytgolccldopofbaa.PNameTells
