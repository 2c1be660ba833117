/-
  Layer 13: the live question.
-/
import Derived.Test.YtomlnflblecpbaaEq
namespace Go.Proofs.Ytomlnflblecpbaa
set_option linter.unusedVariables false
set_option linter.unusedSimpArgs false
open Go.RowKit Go.Proofs.YtomlnflblecpbaaW.PrintWords Go.Proofs.YtomlnflblecpbaaW.PrintMore PKeysPlays
attribute [local go_sem] max2_int min2_int
attribute [local go_sem high] eql32 neq32 guard32
def ka : ByteArray := ⟨#[97]⟩
def kb : ByteArray := ⟨#[98]⟩
def kaa : ByteArray := ⟨#[97, 97]⟩
theorem hd_p1 : putM [] (placeOf kb 1) = [placeOf kb 1] := by decide +kernel
theorem hd_p2 : putM [placeOf kb 1] (placeOf ka 2) = [placeOf ka 2, placeOf kb 1] := by decide +kernel
theorem hd_p3 : putM [placeOf ka 2, placeOf kb 1] (placeOf kb 3) = [placeOf ka 2, placeOf kb 3] := by decide +kernel
theorem hd_d1 : delM [placeOf ka 2, placeOf kb 3] ka = [placeOf kb 3] := by decide +kernel
theorem hd_d2 : delM [placeOf kb 3] ka = [placeOf kb 3] := by decide +kernel
theorem hd_g1 : getM [] kb = none := by decide +kernel
theorem hd_g2 : getM [placeOf kb 1] ka = none := by decide +kernel
theorem hd_g3 : getM [placeOf ka 2, placeOf kb 1] kb = some (placeOf kb 1) := by decide +kernel
theorem hd_g4 : getM [placeOf ka 2, placeOf kb 3] ka = some (placeOf ka 2) := by decide +kernel
theorem hd_g5 : getM [placeOf kb 3] ka = none := by decide +kernel
theorem hd_g6 : getM [placeOf kb 3] kb = some (placeOf kb 3) := by decide +kernel
theorem hd_l : keysM [placeOf ka 2, placeOf kb 3] = [ka, kb] := by decide +kernel
theorem hd_f : (fromK (keysM [placeOf ka 2, placeOf kb 3]) kaa).take (5 : Int).toNat = [kb] := by decide +kernel
theorem ans_none {m : List Pl} {k : ByteArray} (h : getM m k = none) : ans m k = .tuple #[.agg zeroPl.cells, .bool false] := by unfold ans; rw [h]; rfl
theorem ans_some {m : List Pl} {k : ByteArray} {p : Pl} (h : getM m k = some p) : ans m k = .tuple #[.agg p.cells, .bool true] := by unfold ans; rw [h]; rfl
theorem lits_told {W : World} {g : Nat} (l : List ByteArray) (hl : l.length ≤ 1000) (h : W.heap[g]? = some (.cells (strV l).toArray 9 (0, 0))) : ToldS l (.slice (some ⟨g, 0, none⟩) l.length l.length) W := by
  refine ⟨_, _, rfl, Nat.le_refl _, rfl, by omega, fun _ => ⟨_, rfl, fun j p hj => ⟨[.string p], rfl, rfl, fun i u hu => ?_⟩⟩⟩
  obtain rfl : i = 0 := by
    cases i with
    | zero => rfl
    | succ i => cases hu
  obtain rfl := Option.some.inj hu
  have hadd : (⟨g, 0, none⟩ : Addr).add (j * 1 + 0) = ⟨g, j, none⟩ := by unfold Addr.add; split <;> simp_all
  show W.cell? ((⟨g, 0, none⟩ : Addr).add (j * 1 + 0)) = _
  rw [hadd, cell_of_row W g j _ 9 (0, 0) h]
  unfold strV
  simp [hj]
set_option maxRecDepth 100000 in
set_option maxHeartbeats 8000000 in
theorem head_calls (w : World) : Calls Try.prog 9 #[] w fun e w' => e = .returned (.bool true) ∧ Below w.heap.size w w' := by
  go_enter Try.func9, Try.ntmps9
  go_upto_region 2 with (go_at_call 10; refine (p_new (p_start (Below.refl _ _))).mono ?_; rintro e w1 ⟨d, rfl, hP⟩; have HP := Aside0.mk hP; clear hP)
  obtain ⟨M0, hM0⟩ : ∃ M0 : Nat → Prop, (fun _ : Nat => False) = M0 := ⟨_, rfl⟩
  rw [hM0] at HP
  clear hM0
  have HC := Aside0.mk (fun (W : World) (h : P2 (dirB d []) noB M0 w W) => (by have := p_put h (placeOf kb 1) (by decide) (by decide); rw [show Pl.key (placeOf kb 1) = kb from rfl, ans_none hd_g1, hd_p1] at this; exact this : Calls Try.prog 20 #[.pointer (some ⟨d, 0, none⟩), .agg (Pl.cells (placeOf kb 1))] W fun e w' => e = .returned (.tuple #[.agg #[.int .i64 0, .int .i64 0, .string ByteArray.empty, .int .i64 0, .int .i64 0], .bool false]) ∧ P2 (dirB d [placeOf kb 1]) noB M0 w w' ∧ KeepS (fun k => ¬ M0 k) W w'))
  go_upto_region 5 with (first | (go_at_call 26; refine (place_calls _ kb 1).mono ?_; rintro e wp1 ⟨rfl, hg⟩; have HPp := Aside0.mk (HP.out.grows hg); clear hg HP) | (go_at_call 20; refine (HC.out _ HPp.out).mono ?_; clear HC; rintro e wc1 ⟨rfl, hQ, hK⟩; have HPc := Aside0.mk hQ; clear hQ hK HPp))
  change Code.wp _ _ _ _ (wc1.alloc (.cells (Pl.cells zeroPl) 32))
  have g1 : Grows wc1 (wc1.alloc (.cells (Pl.cells zeroPl) 32)) := (Below.refl wc1.heap.size wc1).alloc (Nat.le_refl _) _
  obtain ⟨M1, hP, hB, hM⟩ := HPc.out.boxed zeroPl
  have HP := Aside0.mk hP
  have HB1 := Aside0.mk hB
  clear g1 HPc hP hB hM
  generalize wc1.alloc (.cells (Pl.cells zeroPl) 32) = w2 at *
  generalize wc1.heap.size = q1 at *
  clear HB1
  have HC := Aside0.mk (fun (W : World) (h : P2 (dirB d [placeOf kb 1]) noB M1 w W) => (by have := p_put h (placeOf ka 2) (by decide) (by decide); rw [show Pl.key (placeOf ka 2) = ka from rfl, ans_none hd_g2, hd_p2] at this; exact this : Calls Try.prog 20 #[.pointer (some ⟨d, 0, none⟩), .agg (Pl.cells (placeOf ka 2))] W fun e w' => e = .returned (.tuple #[.agg #[.int .i64 0, .int .i64 0, .string ByteArray.empty, .int .i64 0, .int .i64 0], .bool false]) ∧ P2 (dirB d [placeOf ka 2, placeOf kb 1]) noB M1 w w' ∧ KeepS (fun k => ¬ M1 k) W w'))
  go_upto_region 6 with (first | (go_at_call 26; refine (place_calls _ ka 2).mono ?_; rintro e wp2 ⟨rfl, hg⟩; have HPp := Aside0.mk (HP.out.grows hg); clear hg HP) | (go_at_call 20; refine (HC.out _ HPp.out).mono ?_; clear HC; rintro e wc2 ⟨rfl, hQ, hK⟩; have HPc := Aside0.mk hQ; clear hQ hK HPp))
  change Code.wp _ _ _ _ (wc2.alloc (.cells (Pl.cells zeroPl) 32))
  have g1 : Grows wc2 (wc2.alloc (.cells (Pl.cells zeroPl) 32)) := (Below.refl wc2.heap.size wc2).alloc (Nat.le_refl _) _
  obtain ⟨M2, hP, hB, hM⟩ := HPc.out.boxed zeroPl
  have HP := Aside0.mk hP
  have HB2 := Aside0.mk hB
  clear g1 HPc hP hB hM
  generalize wc2.alloc (.cells (Pl.cells zeroPl) 32) = w3 at *
  generalize wc2.heap.size = q2 at *
  clear HB2
  have HC := Aside0.mk (fun (W : World) (h : P2 (dirB d [placeOf ka 2, placeOf kb 1]) noB M2 w W) => (by have := p_put h (placeOf kb 3) (by decide) (by decide); rw [show Pl.key (placeOf kb 3) = kb from rfl, ans_some hd_g3, hd_p3] at this; exact this : Calls Try.prog 20 #[.pointer (some ⟨d, 0, none⟩), .agg (Pl.cells (placeOf kb 3))] W fun e w' => e = .returned (.tuple #[.agg #[.int .i64 1, .int .i64 3, .string kb, .int .i64 13, .int .i64 20], .bool true]) ∧ P2 (dirB d [placeOf ka 2, placeOf kb 3]) noB M2 w w' ∧ KeepS (fun k => ¬ M2 k) W w'))
  go_upto_region 7 with (first | (go_at_call 26; refine (place_calls _ kb 3).mono ?_; rintro e wp3 ⟨rfl, hg⟩; have HPp := Aside0.mk (HP.out.grows hg); clear hg HP) | (go_at_call 20; refine (HC.out _ HPp.out).mono ?_; clear HC; rintro e wc3 ⟨rfl, hQ, hK⟩; have HPc := Aside0.mk hQ; clear hQ hK HPp))
  change Code.wp _ _ _ _ (wc3.alloc (.cells (Pl.cells (placeOf kb 1)) 32))
  have g1 : Grows wc3 (wc3.alloc (.cells (Pl.cells (placeOf kb 1)) 32)) := (Below.refl wc3.heap.size wc3).alloc (Nat.le_refl _) _
  obtain ⟨M3, hP, hB, hM⟩ := HPc.out.boxed (placeOf kb 1)
  have HP := Aside0.mk hP
  have HB3 := Aside0.mk hB
  clear g1 HPc hP hB hM
  generalize wc3.alloc (.cells (Pl.cells (placeOf kb 1)) 32) = w4 at *
  generalize wc3.heap.size = q3 at *
  go_upto_region 8 with (go_at_call 24; refine (p_listF HP.out (by decide)).mono ?_; rintro e w5 ⟨v8, M4, rfl, hT, hQ, hg, hM⟩; rw [hd_l] at hT; have HT8 := Aside0.mk hT; replace HB3 := Aside0.mk (HB3.out.grows hg hM); clear HP; have HP := Aside0.mk hQ; clear hT hQ hg hM)
  go_upto_region 9 with (go_at_call 18; refine (p_fromF HP.out (by decide) kaa 5).mono ?_; rintro e w6 ⟨v9, M5, rfl, hT, hQ, hg, hM⟩; rw [hd_f] at hT; have HT9 := Aside0.mk hT; replace HB3 := Aside0.mk (HB3.out.grows hg hM); replace HT8 := Aside0.mk (HT8.out.growsM hg hM); clear HP; have HP := Aside0.mk hQ; clear hT hQ hg hM)
  have HC := Aside0.mk (fun (W : World) (h : P2 (dirB d [placeOf ka 2, placeOf kb 3]) noB M5 w W) => (by have := p_del h ka (by decide) (by decide); rw [ans_some hd_g4, hd_d1] at this; exact this : Calls Try.prog 13 #[.pointer (some ⟨d, 0, none⟩), .string ka] W fun e w' => e = .returned (.tuple #[.agg #[.int .i64 2, .int .i64 3, .string ka, .int .i64 13, .int .i64 20], .bool true]) ∧ P2 (dirB d [placeOf kb 3]) noB M5 w w' ∧ KeepS (fun k => ¬ M5 k) W w'))
  go_upto_region 10 with (first | (go_at_call 13; refine (HC.out _ HP.out).mono ?_; clear HC; rintro e wc6 ⟨rfl, hQ, hK⟩; have HPc := Aside0.mk hQ; replace HB3 := Aside0.mk (HB3.out.kept hK); replace HT8 := Aside0.mk (HT8.out.kept hK); replace HT9 := Aside0.mk (HT9.out.kept hK); clear hQ hK HP))
  change Code.wp _ _ _ _ (wc6.alloc (.cells (Pl.cells (placeOf ka 2)) 32))
  have g1 : Grows wc6 (wc6.alloc (.cells (Pl.cells (placeOf ka 2)) 32)) := (Below.refl wc6.heap.size wc6).alloc (Nat.le_refl _) _
  obtain ⟨M6, hP, hB, hM⟩ := HPc.out.boxed (placeOf ka 2)
  replace HB3 := Aside0.mk (HB3.out.grows g1 hM)
  replace HT8 := Aside0.mk (HT8.out.growsM g1 hM)
  replace HT9 := Aside0.mk (HT9.out.growsM g1 hM)
  have HP := Aside0.mk hP
  have HB6 := Aside0.mk hB
  clear g1 HPc hP hB hM
  generalize wc6.alloc (.cells (Pl.cells (placeOf ka 2)) 32) = w7 at *
  generalize wc6.heap.size = q6 at *
  have HC := Aside0.mk (fun (W : World) (h : P2 (dirB d [placeOf kb 3]) noB M6 w W) => (by have := p_del h ka (by decide) (by decide); rw [ans_none hd_g5, hd_d2] at this; exact this : Calls Try.prog 13 #[.pointer (some ⟨d, 0, none⟩), .string ka] W fun e w' => e = .returned (.tuple #[.agg #[.int .i64 0, .int .i64 0, .string ByteArray.empty, .int .i64 0, .int .i64 0], .bool false]) ∧ P2 (dirB d [placeOf kb 3]) noB M6 w w' ∧ KeepS (fun k => ¬ M6 k) W w'))
  go_upto_region 11 with (first | (go_at_call 13; refine (HC.out _ HP.out).mono ?_; clear HC; rintro e wc7 ⟨rfl, hQ, hK⟩; have HPc := Aside0.mk hQ; replace HB3 := Aside0.mk (HB3.out.kept hK); replace HT8 := Aside0.mk (HT8.out.kept hK); replace HT9 := Aside0.mk (HT9.out.kept hK); replace HB6 := Aside0.mk (HB6.out.kept hK); clear hQ hK HP))
  change Code.wp _ _ _ _ (wc7.alloc (.cells (Pl.cells zeroPl) 32))
  have g1 : Grows wc7 (wc7.alloc (.cells (Pl.cells zeroPl) 32)) := (Below.refl wc7.heap.size wc7).alloc (Nat.le_refl _) _
  obtain ⟨M7, hP, hB, hM⟩ := HPc.out.boxed zeroPl
  replace HB3 := Aside0.mk (HB3.out.grows g1 hM)
  replace HT8 := Aside0.mk (HT8.out.growsM g1 hM)
  replace HT9 := Aside0.mk (HT9.out.growsM g1 hM)
  replace HB6 := Aside0.mk (HB6.out.grows g1 hM)
  have HP := Aside0.mk hP
  have HB7 := Aside0.mk hB
  clear g1 HPc hP hB hM
  generalize wc7.alloc (.cells (Pl.cells zeroPl) 32) = w8 at *
  generalize wc7.heap.size = q7 at *
  clear HB7
  have HC := Aside0.mk (fun (W : World) (h : P2 (dirB d [placeOf kb 3]) noB M7 w W) => (by have := p_get h kb (by decide) (by decide); rw [ans_some hd_g6] at this; exact this : Calls Try.prog 15 #[.pointer (some ⟨d, 0, none⟩), .string kb] W fun e w' => e = .returned (.tuple #[.agg #[.int .i64 3, .int .i64 3, .string kb, .int .i64 13, .int .i64 20], .bool true]) ∧ P2 (dirB d [placeOf kb 3]) noB M7 w w' ∧ Grows W w'))
  go_upto_region 12 with (first | (go_at_call 15; refine (HC.out _ HP.out).mono ?_; clear HC; rintro e wc8 ⟨rfl, hQ, hg⟩; have HPc := Aside0.mk hQ; replace HB3 := Aside0.mk (HB3.out.grows hg fun _ h => h); replace HT8 := Aside0.mk (HT8.out.growsM hg fun _ h => h); replace HT9 := Aside0.mk (HT9.out.growsM hg fun _ h => h); replace HB6 := Aside0.mk (HB6.out.grows hg fun _ h => h); clear hQ hg HP))
  change Code.wp _ _ _ _ (wc8.alloc (.cells (Pl.cells (placeOf kb 3)) 32))
  have g1 : Grows wc8 (wc8.alloc (.cells (Pl.cells (placeOf kb 3)) 32)) := (Below.refl wc8.heap.size wc8).alloc (Nat.le_refl _) _
  obtain ⟨M8, hP, hB, hM⟩ := HPc.out.boxed (placeOf kb 3)
  replace HB3 := Aside0.mk (HB3.out.grows g1 hM)
  replace HT8 := Aside0.mk (HT8.out.growsM g1 hM)
  replace HT9 := Aside0.mk (HT9.out.growsM g1 hM)
  replace HB6 := Aside0.mk (HB6.out.grows g1 hM)
  have HP := Aside0.mk hP
  have HB8 := Aside0.mk hB
  clear g1 HPc hP hB hM
  generalize wc8.alloc (.cells (Pl.cells (placeOf kb 3)) 32) = w9 at *
  generalize wc8.heap.size = q8 at *
  apply wp_region_grow (hm := by kernel_rfl) (hB := by kernel_rfl)
  case h =>
    apply grow_fixed
    case hw => simp [Region.wanted, yielded]
    case ho =>
      intro w' hb hf
      clear hf
      refine ⟨?_⟩
      go_simp
      exact ⟨Ext.refl _ _, rfl⟩
    simp only [Act.put, List.setIfInBounds_toArray, List.set_cons_zero, List.set_cons_succ]
    apply grow_fixed (c := .bool true)
    case hw => simp [Region.wanted, yielded]
    case ho =>
      intro w' hb hf
      clear hf
      refine ⟨?_⟩
      go_simp
      exact ⟨Ext.refl _ _, by first | rfl | simp⟩
    simp only [Act.put, List.setIfInBounds_toArray, List.set_cons_zero, List.set_cons_succ]
    apply grow_fixed (c := .bool true)
    case hw => simp [Region.wanted, yielded]
    case ho =>
      intro w' hb hf
      clear hf
      refine ⟨?_⟩
      go_simp
      exact ⟨Ext.refl _ _, by first | rfl | simp⟩
    simp only [Act.put, List.setIfInBounds_toArray, List.set_cons_zero, List.set_cons_succ]
    apply grow_fixed
    case hw => simp [Region.wanted, yielded]
    case ho =>
      intro w' hb hf
      clear hf
      refine ⟨?_⟩
      go_simp
      exact ⟨Ext.refl _ _, rfl⟩
    simp only [Act.put, List.setIfInBounds_toArray, List.set_cons_zero, List.set_cons_succ]
    apply grow_fixed (c := .bool true)
    case hw => simp [Region.wanted, yielded]
    case ho =>
      intro w' hb hf
      clear hf
      refine ⟨?_⟩
      go_simp
      exact ⟨Ext.refl _ _, by first | rfl | simp⟩
    simp only [Act.put, List.setIfInBounds_toArray, List.set_cons_zero, List.set_cons_succ]
    apply grow_fixed (c := .bool true)
    case hw => simp [Region.wanted, yielded]
    case ho =>
      intro w' hb hf
      clear hf
      refine ⟨?_⟩
      go_simp
      exact ⟨Ext.refl _ _, by first | rfl | simp⟩
    simp only [Act.put, List.setIfInBounds_toArray, List.set_cons_zero, List.set_cons_succ]
    apply grow_fixed (c := .bool true)
    case hw => simp [Region.wanted, yielded]
    case ho =>
      intro w' hb hf
      clear hf
      refine ⟨?_⟩
      go_simp
      exact ⟨Ext.refl _ _, by first | rfl | simp⟩
    simp only [Act.put, List.setIfInBounds_toArray, List.set_cons_zero, List.set_cons_succ]
    apply grow_fixed (c := .agg #[.int .i64 1, .int .i64 3, .string kb, .int .i64 13, .int .i64 20])
    case hw => simp [Region.wanted, yielded]
    case ho =>
      intro w' hb hf
      clear hf
      have d0 := (HB3.out.box.grows hb).c0; have d1 := (HB3.out.box.grows hb).c1; have d2 := (HB3.out.box.grows hb).c2; have d3 := (HB3.out.box.grows hb).c3; have d4 := (HB3.out.box.grows hb).c4
      dsimp only [placeOf] at d0 d1 d2 d3 d4
      refine ⟨?_⟩
      go_simp
      exact ⟨Ext.refl _ _, by first | rfl | simp⟩
    simp only [Act.put, List.setIfInBounds_toArray, List.set_cons_zero, List.set_cons_succ]
    apply grow_fixed (c := .agg #[.int .i64 1, .int .i64 3, .string kb, .int .i64 13, .int .i64 20])
    case hw => simp [Region.wanted, yielded]
    case ho =>
      intro w' hb hf
      clear hf
      have HPL := Aside0.mk (place_calls w' kb 1)
      refine ⟨?_⟩
      go_simp
      exact HPL.out.mono fun e w2 h => ⟨_, h.1, Ext.of_below hb.size h.2, rfl⟩
    simp only [Act.put, List.setIfInBounds_toArray, List.set_cons_zero, List.set_cons_succ]
    apply grow_fixed (c := .bool true)
    case hw => simp [Region.wanted, yielded]
    case ho =>
      intro w' hb hf
      clear hf
      refine ⟨?_⟩
      go_simp
      exact ⟨Ext.refl _ _, by first | rfl | simp⟩
    simp only [Act.put, List.setIfInBounds_toArray, List.set_cons_zero, List.set_cons_succ]
    apply grow_fixed (c := .bool true)
    case hw => simp [Region.wanted, yielded]
    case ho =>
      intro w' hb hf
      clear hf
      refine ⟨?_⟩
      go_simp
      exact ⟨Ext.refl _ _, by first | rfl | simp⟩
    simp only [Act.put, List.setIfInBounds_toArray, List.set_cons_zero, List.set_cons_succ]
    apply grow_fixed (c := .bool true)
    case hw => simp [Region.wanted, yielded]
    case ho =>
      intro w' hb hf
      clear hf
      refine ⟨?_⟩
      go_simp
      exact ⟨Ext.refl _ _, by first | rfl | simp⟩
    simp only [Act.put, List.setIfInBounds_toArray, List.set_cons_zero, List.set_cons_succ]
    apply grow_fixed
    case hw => simp [Region.wanted, yielded]
    case ho =>
      intro w' hb hf
      clear hf
      refine ⟨?_⟩
      go_simp
      exact ⟨Ext.refl _ _, rfl⟩
    simp only [Act.put, List.setIfInBounds_toArray, List.set_cons_zero, List.set_cons_succ]
    apply grow_fixed (c := .bool true)
    case hw => simp [Region.wanted, yielded]
    case ho =>
      intro w' hb hf
      clear hf
      refine ⟨?_⟩
      go_simp
      exact ⟨Ext.refl _ _, by first | rfl | simp⟩
    simp only [Act.put, List.setIfInBounds_toArray, List.set_cons_zero, List.set_cons_succ]
    apply grow_fixed (c := .bool true)
    case hw => simp [Region.wanted, yielded]
    case ho =>
      intro w' hb hf
      clear hf
      refine ⟨?_⟩
      go_simp
      exact ⟨Ext.refl _ _, by first | rfl | simp⟩
    simp only [Act.put, List.setIfInBounds_toArray, List.set_cons_zero, List.set_cons_succ]
    apply grow_fixed
    case hw => simp [Region.wanted, yielded]
    case ho =>
      intro w' hb hf
      clear hf
      refine ⟨?_⟩
      go_simp
      exact ⟨Ext.refl _ _, rfl⟩
    simp only [Act.put, List.setIfInBounds_toArray, List.set_cons_zero, List.set_cons_succ]
    apply grow_free (G := ToldS [ka, kb])
    case hw => simp [Region.wanted, yielded]
    case hm => exact ToldS.mono _
    case ho =>
      intro w' hb hf
      clear hf
      refine ⟨?_⟩
      go_simp
      exact ⟨Ext.of_below hb.size ((Below.refl _ _).alloc (Nat.le_refl _) _), lits_told [ka, kb] (by decide) (heap_alloc_new w' _)⟩
    intro v72
    simp only [Act.put, List.setIfInBounds_toArray, List.set_cons_zero, List.set_cons_succ]
    apply grow_fixed (c := .bool true)
    case hw => simp [Region.wanted, yielded]
    case ho =>
      intro w' hb hf
      have h2 : ToldS [ka, kb] v72 w' := hf _ (List.Mem.head _) (by kernel_rfl)
      clear hf
      have HSM := Aside0.mk (same_calls (HT8.out.told.grows hb) h2 (by decide))
      clear h2
      refine ⟨?_⟩
      go_simp
      refine HSM.out.mono fun e w2 h => ?_
      obtain ⟨rfl, z, rfl⟩ := h
      exact ⟨_, rfl, Ext.of_below hb.size (drew_grows w' z), by simp⟩
    simp only [Act.put, List.setIfInBounds_toArray, List.set_cons_zero, List.set_cons_succ]
    apply grow_fixed (c := .bool true)
    case hw => simp [Region.wanted, yielded]
    case ho =>
      intro w' hb hf
      clear hf
      refine ⟨?_⟩
      go_simp
      exact ⟨Ext.refl _ _, by first | rfl | simp⟩
    simp only [Act.put, List.setIfInBounds_toArray, List.set_cons_zero, List.set_cons_succ]
    apply grow_fixed (c := .bool true)
    case hw => simp [Region.wanted, yielded]
    case ho =>
      intro w' hb hf
      clear hf
      refine ⟨?_⟩
      go_simp
      exact ⟨Ext.refl _ _, by first | rfl | simp⟩
    simp only [Act.put, List.setIfInBounds_toArray, List.set_cons_zero, List.set_cons_succ]
    apply grow_fixed
    case hw => simp [Region.wanted, yielded]
    case ho =>
      intro w' hb hf
      clear hf
      refine ⟨?_⟩
      go_simp
      exact ⟨Ext.refl _ _, rfl⟩
    simp only [Act.put, List.setIfInBounds_toArray, List.set_cons_zero, List.set_cons_succ]
    apply grow_free (G := ToldS [kb])
    case hw => simp [Region.wanted, yielded]
    case hm => exact ToldS.mono _
    case ho =>
      intro w' hb hf
      clear hf
      refine ⟨?_⟩
      go_simp
      exact ⟨Ext.of_below hb.size ((Below.refl _ _).alloc (Nat.le_refl _) _), lits_told [kb] (by decide) (heap_alloc_new w' _)⟩
    intro v77
    simp only [Act.put, List.setIfInBounds_toArray, List.set_cons_zero, List.set_cons_succ]
    apply grow_fixed (c := .bool true)
    case hw => simp [Region.wanted, yielded]
    case ho =>
      intro w' hb hf
      have h2 : ToldS [kb] v77 w' := hf _ (List.Mem.head _) (by kernel_rfl)
      clear hf
      have HSM := Aside0.mk (same_calls (HT9.out.told.grows hb) h2 (by decide))
      clear h2
      refine ⟨?_⟩
      go_simp
      refine HSM.out.mono fun e w2 h => ?_
      obtain ⟨rfl, z, rfl⟩ := h
      exact ⟨_, rfl, Ext.of_below hb.size (drew_grows w' z), by simp⟩
    simp only [Act.put, List.setIfInBounds_toArray, List.set_cons_zero, List.set_cons_succ]
    apply grow_fixed (c := .bool true)
    case hw => simp [Region.wanted, yielded]
    case ho =>
      intro w' hb hf
      clear hf
      refine ⟨?_⟩
      go_simp
      exact ⟨Ext.refl _ _, by first | rfl | simp⟩
    simp only [Act.put, List.setIfInBounds_toArray, List.set_cons_zero, List.set_cons_succ]
    apply grow_fixed (c := .bool true)
    case hw => simp [Region.wanted, yielded]
    case ho =>
      intro w' hb hf
      clear hf
      refine ⟨?_⟩
      go_simp
      exact ⟨Ext.refl _ _, by first | rfl | simp⟩
    simp only [Act.put, List.setIfInBounds_toArray, List.set_cons_zero, List.set_cons_succ]
    apply grow_fixed (c := .agg #[.int .i64 2, .int .i64 3, .string ka, .int .i64 13, .int .i64 20])
    case hw => simp [Region.wanted, yielded]
    case ho =>
      intro w' hb hf
      clear hf
      have d0 := (HB6.out.box.grows hb).c0; have d1 := (HB6.out.box.grows hb).c1; have d2 := (HB6.out.box.grows hb).c2; have d3 := (HB6.out.box.grows hb).c3; have d4 := (HB6.out.box.grows hb).c4
      dsimp only [placeOf] at d0 d1 d2 d3 d4
      refine ⟨?_⟩
      go_simp
      exact ⟨Ext.refl _ _, by first | rfl | simp⟩
    simp only [Act.put, List.setIfInBounds_toArray, List.set_cons_zero, List.set_cons_succ]
    apply grow_fixed (c := .agg #[.int .i64 2, .int .i64 3, .string ka, .int .i64 13, .int .i64 20])
    case hw => simp [Region.wanted, yielded]
    case ho =>
      intro w' hb hf
      clear hf
      have HPL := Aside0.mk (place_calls w' ka 2)
      refine ⟨?_⟩
      go_simp
      exact HPL.out.mono fun e w2 h => ⟨_, h.1, Ext.of_below hb.size h.2, rfl⟩
    simp only [Act.put, List.setIfInBounds_toArray, List.set_cons_zero, List.set_cons_succ]
    apply grow_fixed (c := .bool true)
    case hw => simp [Region.wanted, yielded]
    case ho =>
      intro w' hb hf
      clear hf
      refine ⟨?_⟩
      go_simp
      exact ⟨Ext.refl _ _, by first | rfl | simp⟩
    simp only [Act.put, List.setIfInBounds_toArray, List.set_cons_zero, List.set_cons_succ]
    apply grow_fixed (c := .bool true)
    case hw => simp [Region.wanted, yielded]
    case ho =>
      intro w' hb hf
      clear hf
      refine ⟨?_⟩
      go_simp
      exact ⟨Ext.refl _ _, by first | rfl | simp⟩
    simp only [Act.put, List.setIfInBounds_toArray, List.set_cons_zero, List.set_cons_succ]
    apply grow_fixed (c := .bool true)
    case hw => simp [Region.wanted, yielded]
    case ho =>
      intro w' hb hf
      clear hf
      refine ⟨?_⟩
      go_simp
      exact ⟨Ext.refl _ _, by first | rfl | simp⟩
    simp only [Act.put, List.setIfInBounds_toArray, List.set_cons_zero, List.set_cons_succ]
    apply grow_fixed
    case hw => simp [Region.wanted, yielded]
    case ho =>
      intro w' hb hf
      clear hf
      refine ⟨?_⟩
      go_simp
      exact ⟨Ext.refl _ _, rfl⟩
    simp only [Act.put, List.setIfInBounds_toArray, List.set_cons_zero, List.set_cons_succ]
    apply grow_fixed (c := .bool true)
    case hw => simp [Region.wanted, yielded]
    case ho =>
      intro w' hb hf
      clear hf
      refine ⟨?_⟩
      go_simp
      exact ⟨Ext.refl _ _, by first | rfl | simp⟩
    simp only [Act.put, List.setIfInBounds_toArray, List.set_cons_zero, List.set_cons_succ]
    apply grow_fixed (c := .bool true)
    case hw => simp [Region.wanted, yielded]
    case ho =>
      intro w' hb hf
      clear hf
      refine ⟨?_⟩
      go_simp
      exact ⟨Ext.refl _ _, by first | rfl | simp⟩
    simp only [Act.put, List.setIfInBounds_toArray, List.set_cons_zero, List.set_cons_succ]
    apply grow_fixed
    case hw => simp [Region.wanted, yielded]
    case ho =>
      intro w' hb hf
      clear hf
      refine ⟨?_⟩
      go_simp
      exact ⟨Ext.refl _ _, rfl⟩
    simp only [Act.put, List.setIfInBounds_toArray, List.set_cons_zero, List.set_cons_succ]
    apply grow_fixed (c := .bool true)
    case hw => simp [Region.wanted, yielded]
    case ho =>
      intro w' hb hf
      clear hf
      refine ⟨?_⟩
      go_simp
      exact ⟨Ext.refl _ _, by first | rfl | simp⟩
    simp only [Act.put, List.setIfInBounds_toArray, List.set_cons_zero, List.set_cons_succ]
    apply grow_fixed (c := .bool true)
    case hw => simp [Region.wanted, yielded]
    case ho =>
      intro w' hb hf
      clear hf
      refine ⟨?_⟩
      go_simp
      exact ⟨Ext.refl _ _, by first | rfl | simp⟩
    simp only [Act.put, List.setIfInBounds_toArray, List.set_cons_zero, List.set_cons_succ]
    apply grow_fixed (c := .bool true)
    case hw => simp [Region.wanted, yielded]
    case ho =>
      intro w' hb hf
      clear hf
      refine ⟨?_⟩
      go_simp
      exact ⟨Ext.refl _ _, by first | rfl | simp⟩
    simp only [Act.put, List.setIfInBounds_toArray, List.set_cons_zero, List.set_cons_succ]
    apply grow_fixed (c := .agg #[.int .i64 3, .int .i64 3, .string kb, .int .i64 13, .int .i64 20])
    case hw => simp [Region.wanted, yielded]
    case ho =>
      intro w' hb hf
      clear hf
      have d0 := (HB8.out.box.grows hb).c0; have d1 := (HB8.out.box.grows hb).c1; have d2 := (HB8.out.box.grows hb).c2; have d3 := (HB8.out.box.grows hb).c3; have d4 := (HB8.out.box.grows hb).c4
      dsimp only [placeOf] at d0 d1 d2 d3 d4
      refine ⟨?_⟩
      go_simp
      exact ⟨Ext.refl _ _, by first | rfl | simp⟩
    simp only [Act.put, List.setIfInBounds_toArray, List.set_cons_zero, List.set_cons_succ]
    apply grow_fixed (c := .agg #[.int .i64 3, .int .i64 3, .string kb, .int .i64 13, .int .i64 20])
    case hw => simp [Region.wanted, yielded]
    case ho =>
      intro w' hb hf
      clear hf
      have HPL := Aside0.mk (place_calls w' kb 3)
      refine ⟨?_⟩
      go_simp
      exact HPL.out.mono fun e w2 h => ⟨_, h.1, Ext.of_below hb.size h.2, rfl⟩
    simp only [Act.put, List.setIfInBounds_toArray, List.set_cons_zero, List.set_cons_succ]
    apply grow_fixed (c := .bool true)
    case hw => simp [Region.wanted, yielded]
    case ho =>
      intro w' hb hf
      clear hf
      refine ⟨?_⟩
      go_simp
      exact ⟨Ext.refl _ _, by first | rfl | simp⟩
    simp only [Act.put, List.setIfInBounds_toArray, List.set_cons_zero, List.set_cons_succ]
    apply grow_fixed (c := .bool true)
    case hw => simp [Region.wanted, yielded]
    case ho =>
      intro w' hb hf
      clear hf
      refine ⟨?_⟩
      go_simp
      exact ⟨Ext.refl _ _, by first | rfl | simp⟩
    simp only [Act.put, List.setIfInBounds_toArray, List.set_cons_zero, List.set_cons_succ]
    apply grow_fixed (c := .bool true)
    case hw => simp [Region.wanted, yielded]
    case ho =>
      intro w' hb hf
      clear hf
      refine ⟨?_⟩
      go_simp
      exact ⟨Ext.refl _ _, by first | rfl | simp⟩
    simp only [Act.put, List.setIfInBounds_toArray, List.set_cons_zero, List.set_cons_succ]
    apply grow_fixed
    case hw => simp [Region.wanted, yielded]
    case ho =>
      intro w' hb hf
      clear hf
      refine ⟨?_⟩
      go_simp
      exact ⟨Ext.refl _ _, rfl⟩
    simp only [Act.put, List.setIfInBounds_toArray, List.set_cons_zero, List.set_cons_succ]
    apply grow_fixed (c := .bool true)
    case hw => simp [Region.wanted, yielded]
    case ho =>
      intro w' hb hf
      clear hf
      refine ⟨?_⟩
      go_simp
      exact ⟨Ext.refl _ _, by first | rfl | simp⟩
    simp only [Act.put, List.setIfInBounds_toArray, List.set_cons_zero, List.set_cons_succ]
    apply grow_fixed (c := .bool true)
    case hw => simp [Region.wanted, yielded]
    case ho =>
      intro w' hb hf
      clear hf
      refine ⟨?_⟩
      go_simp
      exact ⟨Ext.refl _ _, by first | rfl | simp⟩
    simp only [Act.put, List.setIfInBounds_toArray, List.set_cons_zero, List.set_cons_succ]
    apply grow_fixed
    case hw => simp [Region.wanted, yielded]
    case ho =>
      intro w' hb hf
      clear hf
      refine ⟨?_⟩
      go_simp
      exact ⟨Ext.refl _ _, rfl⟩
    simp only [Act.put, List.setIfInBounds_toArray, List.set_cons_zero, List.set_cons_succ]
    apply grow_fixed (c := .int .i64 1)
    case hw => simp [Region.wanted, yielded]
    case ho =>
      intro w' hb hf
      clear hf
      have HMN := Aside0.mk (p_many (HP.out.grows hb))
      refine ⟨?_⟩
      go_simp
      exact HMN.out.mono fun e w2 h => ⟨_, h.1, by rw [h.2]; exact Ext.refl _ _, rfl⟩
    simp only [Act.put, List.setIfInBounds_toArray, List.set_cons_zero, List.set_cons_succ]
    apply grow_fixed (c := .bool true)
    case hw => simp [Region.wanted, yielded]
    case ho =>
      intro w' hb hf
      clear hf
      refine ⟨?_⟩
      go_simp
      exact ⟨Ext.refl _ _, by first | rfl | simp⟩
    simp only [Act.put, List.setIfInBounds_toArray, List.set_cons_zero, List.set_cons_succ]
    apply grow_fixed (c := .bool true)
    case hw => simp [Region.wanted, yielded]
    case ho =>
      intro w' hb hf
      clear hf
      refine ⟨?_⟩
      go_simp
      exact ⟨Ext.refl _ _, by first | rfl | simp⟩
    simp only [Act.put, List.setIfInBounds_toArray, List.set_cons_zero, List.set_cons_succ]
    apply grow_fixed (c := .bool true)
    case hw => simp [Region.wanted, yielded]
    case ho =>
      intro w' hb hf
      clear hf
      refine ⟨?_⟩
      go_simp
      exact ⟨Ext.refl _ _, by first | rfl | simp⟩
    simp only [Act.put, List.setIfInBounds_toArray, List.set_cons_zero, List.set_cons_succ]
    apply grow_fixed
    case hw => simp [Region.wanted, yielded]
    case ho =>
      intro w' hb hf
      clear hf
      refine ⟨?_⟩
      go_simp
      exact ⟨Ext.refl _ _, rfl⟩
    simp only [Act.put, List.setIfInBounds_toArray, List.set_cons_zero, List.set_cons_succ]
    apply grow_free (G := ToldS [])
    case hw => simp [Region.wanted, yielded]
    case hm => exact ToldS.mono _
    case ho =>
      intro w' hb hf
      clear hf
      have HFR := Aside0.mk (p_from (HP.out.grows hb) (by decide) ByteArray.empty (-1))
      refine ⟨?_⟩
      go_simp
      refine HFR.out.mono ?_
      rintro e w2 ⟨v', rfl, hT, hQ, hg⟩
      exact ⟨_, rfl, Ext.of_below hb.size hg, hT⟩
    intro v107
    simp only [Act.put, List.setIfInBounds_toArray, List.set_cons_zero, List.set_cons_succ]
    apply grow_fixed (c := .int .i64 0)
    case hw => simp [Region.wanted, yielded]
    case ho =>
      intro w' hb hf
      obtain ⟨A9, c9, e9, _, _⟩ : ToldS [] v107 w' := hf _ (List.Mem.head _) (by kernel_rfl)
      clear hf
      subst e9
      refine ⟨?_⟩
      go_simp
      exact ⟨Ext.refl _ _, rfl⟩
    simp only [Act.put, List.setIfInBounds_toArray, List.set_cons_zero, List.set_cons_succ]
    apply grow_fixed (c := .bool true)
    case hw => simp [Region.wanted, yielded]
    case ho =>
      intro w' hb hf
      clear hf
      refine ⟨?_⟩
      go_simp
      exact ⟨Ext.refl _ _, by first | rfl | simp⟩
    simp only [Act.put, List.setIfInBounds_toArray, List.set_cons_zero, List.set_cons_succ]
    apply grow_fixed (c := .bool true)
    case hw => simp [Region.wanted, yielded]
    case ho =>
      intro w' hb hf
      clear hf
      refine ⟨?_⟩
      go_simp
      exact ⟨Ext.refl _ _, by first | rfl | simp⟩
    simp only [Act.put, List.setIfInBounds_toArray, List.set_cons_zero, List.set_cons_succ]
    apply grow_fixed (c := .bool true)
    case hw => simp [Region.wanted, yielded]
    case ho =>
      intro w' hb hf
      clear hf
      refine ⟨?_⟩
      go_simp
      exact ⟨Ext.refl _ _, by first | rfl | simp⟩
    simp only [Act.put, List.setIfInBounds_toArray, List.set_cons_zero, List.set_cons_succ]
    refine grow_nil fun w' hb hf => ?_
    have HE := Aside0.mk (HP.out.grows hb).below
    clear hf
    go_wp2
    go_ret
    exact ⟨rfl, HE.out⟩
  case hsp => exact ⟨ToldS.mono _, ToldS.mono _, ToldS.mono _, trivial⟩
end Go.Proofs.Ytomlnflblecpbaa
