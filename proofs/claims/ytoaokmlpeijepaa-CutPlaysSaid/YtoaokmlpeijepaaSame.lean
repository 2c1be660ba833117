/-
  Layer 6: Same, at rows that are alike.
-/
import Derived.Test.YtoaokmlpeijepaaHead
import Derived.Test.YtoaokmlpeijepaaPCutManyx0
import Derived.Laws.BytesArg
import Derived.Deep.Cut
namespace Go.Proofs.Ytoaokmlpeijepaa
set_option linter.unusedVariables false
set_option linter.unusedSimpArgs false
open Go.RowKit Go.Proofs.YtoaokmlpeijepaaW.PrintWords PCutMany

theorem readsU8' {w : World} {A : Option Addr} {n : Nat} {xs : List Int} (h : Kd.C (Kd.int .u8) w A n xs) : ReadsInt w .u8 A n xs := readsU8 h
theorem conv_str {w : World} {A : Option Addr} {n : Nat} {xs : List Int} (h : ReadsInt w .u8 A n xs) (c : Nat) : (convert 29 9 (.slice A n c)).run Try.prog w = .ok (.string (strOfNums xs)) w := by
  have hn : xs.length = n := h.1
  rcases Nat.eq_zero_or_pos n with h0 | h0
  · subst h0
    obtain rfl : xs = [] := List.eq_nil_of_length_eq_zero hn
    rcases A with _ | ad
    · exact run_convert_bytes_nil w 29 5 Try.underlying29 Try.underlying5 0 c 9 Try.underlying9
    · rw [run_convert_bytes_string w 29 9 5 _ 0 c Try.underlying29 Try.underlying5 Try.underlying9, run_bytesToString w _ 0 c [] (by simpa using run_loadCells_list (P := Try.prog) w ad [] (fun j v hj => by simp at hj))]
      rfl
  · obtain ⟨ad, rfl, hc⟩ := h.2.2 h0
    have hl : (loadCells ad n).run Try.prog w = .ok (xs.map (Value.int .u8)).toArray w := by
      have := run_loadCells_list (P := Try.prog) w ad (xs.map (Value.int .u8)) (fun j v hj => by
        have hjl : j < xs.length := by
          rcases Nat.lt_or_ge j xs.length with h | h
          · exact h
          · simp [List.getElem?_eq_none (show (xs.map (Value.int .u8)).length ≤ j by simpa using h)] at hj
        rw [hc j (by omega)]
        simp [List.getElem?_eq_getElem hjl] at hj
        subst hj
        simp [List.getD, List.getElem?_eq_getElem hjl])
      simpa [hn] using this
    rw [run_convert_bytes_string w 29 9 5 _ n c Try.underlying29 Try.underlying5 Try.underlying9, run_bytesToString w _ n c xs hl, foldl_push_bytes]
    simp [strOfNums, ByteArray.empty, ByteArray.emptyWithCapacity]
    rfl

set_option maxRecDepth 100000 in
set_option maxHeartbeats 4000000 in
theorem same_calls (P : List (List Int)) (A0 : Option Addr) (c0 : Nat) (A1 : Option Addr) (c1 : Nat) (w : World) (h0 : Kd.C (Kd.slice 5 (Kd.int .u8)) w A0 P.length P) (h1 : Kd.C (Kd.slice 5 (Kd.int .u8)) w A1 P.length P) :
    Calls Try.prog 16 #[.slice A0 P.length c0, .slice A1 P.length c1] w fun e w' => e = .returned (.bool true) ∧ Below w.heap.size w w' := by
  have H0 := Aside0.mk h0
  have H1 := Aside0.mk h1
  have hm := h0.2.1
  clear h0 h1
  go_enter Try.func16, Try.ntmps16
  go_wp2
  go_loopg [5] P.length (fun q v5 wz => ∃ k : Nat, Aside0 (q + k = P.length) ∧ k ≤ P.length ∧ v5 = .int .i64 k ∧ Aside0 (Below w.heap.size w wz))
  case atStart => exact ⟨0, ⟨rfl⟩, by omega, rfl, ⟨Below.refl _ _⟩⟩
  case round =>
    obtain ⟨k, HK, hk, rfl, HB⟩ := hrel
    by_cases hlt : k < P.length
    · obtain ⟨ad0, B0, b0, rfl, hc0, _, hr0⟩ := at_L1 (Kd.C_below H0.out HB.out) (k : Int) (by omega) (by omega)
      obtain ⟨ad1, B1, b1, rfl, hc1, _, hr1⟩ := at_L1 (Kd.C_below H1.out HB.out) (k : Int) (by omega) (by omega)
      rw [Int.toNat_natCast] at hc0 hc1
      generalize rd_L1 P (k : Int) = p at hc0 hc1 hr0 hr1
      have HC0 := Aside0.mk hc0
      have HC1 := Aside0.mk hc1
      have HR0 := Aside0.mk (readsU8 hr0)
      have HR1 := Aside0.mk (readsU8 hr1)
      clear hc0 hc1 hr0 hr1
      go_upto_region 6 with fail
      apply wp_region_grow (hm := by kernel_rfl) (hB := by kernel_rfl)
      case h =>
        apply grow_fixed
        case hw => simp [Region.wanted, yielded]
        case ho =>
          intro w' hb hf
          clear hf
          have k0 := pw_cell_below hb HC0.out
          have k1 := pw_cell_below hb HC1.out
          refine ⟨?_⟩
          go_simp
          exact ⟨Ext.refl _ _, rfl⟩
        simp only [Act.put]
        apply grow_fixed
        case hw => simp [Region.wanted, yielded]
        case ho =>
          intro w' hb hf
          clear hf
          have k0 := pw_cell_below hb HC0.out
          have k1 := pw_cell_below hb HC1.out
          refine ⟨?_⟩
          go_simp
          exact ⟨Ext.refl _ _, rfl⟩
        simp only [Act.put]
        apply grow_fixed
        case hw => simp [Region.wanted, yielded]
        case ho =>
          intro w' hb hf
          clear hf
          have k0 := pw_cell_below hb HC0.out
          have k1 := pw_cell_below hb HC1.out
          refine ⟨?_⟩
          go_simp
          exact ⟨Ext.refl _ _, rfl⟩
        simp only [Act.put]
        apply grow_fixed
        case hw => simp [Region.wanted, yielded]
        case ho =>
          intro w' hb hf
          clear hf
          have k0 := pw_cell_below hb HC0.out
          have k1 := pw_cell_below hb HC1.out
          refine ⟨?_⟩
          go_simp
          exact ⟨Ext.refl _ _, rfl⟩
        simp only [Act.put]
        apply grow_fixed (c := .string (strOfNums p))
        case hw => simp [Region.wanted, yielded]
        case ho =>
          intro w' hb hf
          clear hf
          have hc := conv_str (HR0.out.below hb) b0
          refine ⟨?_⟩
          go_simp
          exact ⟨Ext.refl _ _, rfl⟩
        simp only [Act.put]
        apply grow_fixed
        case hw => simp [Region.wanted, yielded]
        case ho =>
          intro w' hb hf
          clear hf
          have k0 := pw_cell_below hb HC0.out
          have k1 := pw_cell_below hb HC1.out
          refine ⟨?_⟩
          go_simp
          exact ⟨Ext.refl _ _, rfl⟩
        simp only [Act.put]
        apply grow_fixed
        case hw => simp [Region.wanted, yielded]
        case ho =>
          intro w' hb hf
          clear hf
          have k0 := pw_cell_below hb HC0.out
          have k1 := pw_cell_below hb HC1.out
          refine ⟨?_⟩
          go_simp
          exact ⟨Ext.refl _ _, rfl⟩
        simp only [Act.put]
        apply grow_fixed
        case hw => simp [Region.wanted, yielded]
        case ho =>
          intro w' hb hf
          clear hf
          have k0 := pw_cell_below hb HC0.out
          have k1 := pw_cell_below hb HC1.out
          refine ⟨?_⟩
          go_simp
          exact ⟨Ext.refl _ _, rfl⟩
        simp only [Act.put]
        apply grow_fixed
        case hw => simp [Region.wanted, yielded]
        case ho =>
          intro w' hb hf
          clear hf
          have k0 := pw_cell_below hb HC0.out
          have k1 := pw_cell_below hb HC1.out
          refine ⟨?_⟩
          go_simp
          exact ⟨Ext.refl _ _, rfl⟩
        simp only [Act.put]
        apply grow_fixed (c := .string (strOfNums p))
        case hw => simp [Region.wanted, yielded]
        case ho =>
          intro w' hb hf
          clear hf
          have hc := conv_str (HR1.out.below hb) b1
          refine ⟨?_⟩
          go_simp
          exact ⟨Ext.refl _ _, rfl⟩
        simp only [Act.put]
        apply grow_fixed (c := .bool false)
        case hw => simp [Region.wanted, yielded]
        case ho =>
          intro w' hb hf
          clear hf
          refine ⟨?_⟩
          go_simp
          exact ⟨Ext.refl _ _, rfl⟩
        simp only [Act.put]
        refine grow_nil (fun w5 hb hf => ?_)
        clear hf
        have HB5 := Aside0.mk (below_then HB.out HB.out.size hb)
        clear hb
        simp only [List.setIfInBounds_toArray, List.set_cons_zero, List.set_cons_succ]
        clear HC0 HC1 HR0 HR1
        repeat (first | go_values | go_step)
        go_roundg (P.length - (k + 1))
        case measure => have := HK.out; omega
        case rel => exact ⟨k + 1, ⟨by omega⟩, by omega, by go_num, HB5⟩
      case hsp => simp [monoAll]
    · have e : k = P.length := by omega
      subst e
      go_wp2
      go_ret
      exact ⟨rfl, HB.out⟩
end Go.Proofs.Ytoaokmlpeijepaa
