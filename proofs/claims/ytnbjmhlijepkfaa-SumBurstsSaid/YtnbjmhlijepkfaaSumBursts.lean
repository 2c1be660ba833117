/-
  The law SumBursts: the Go function returns true at every input, and writes nothing that was there.
-/
import Derived.Test.YtnbjmhlijepkfaaRows
import Derived.WalkKit
import Derived.ProofKit
import Derived.OpenShut
import Derived.ShutString
import Derived.ChangeOld
import Derived.Below
import Derived.SizedLaws
import Derived.Test.YtnbjmhlijepkfaaOpen
import Derived.Test.YtnbjmhlijepkfaaBurst

import Derived.RegionTactic
import Derived.ChangeAlike
import Derived.BigRegion
namespace Go.Proofs.Ytnbjmhlijepkfaa.sumBursts
open Go.ChangeShapes Go.WideShapes Go.ChangeAt Go.RowKit
open Go.Proofs.Ytnbjmhlijepkfaa Crc Go.Proofs.YtnbjmhlijepkfaaW.PrintWords
set_option linter.unusedVariables false
set_option linter.unusedSimpArgs false

theorem own : ownKnob Try.prog.godebug = none := by kernel_rfl
theorem laidOut : laidOutB Try.prog = true := by kernel_rfl

theorem rowAt {w : World} {B : Nat} {cs : Array Value} (h : w.heap[B]? = some (.cells cs 23 (0, 0))) {w' : World} (hb : Below w.heap.size w w') : w'.heap[B]? = some (.cells cs 23 (0, 0)) :=
  (hb.block B (Array.getElem?_eq_some_iff.1 h).1).trans h
theorem bit_of (s : BitVec 32) (t : Nat) : (((s.toNat : Int) / 2 ^ t).tmod 2 == 1) = s.getLsbD t := by
  have e : (s.toNat : Int) / 2 ^ t = ((s.toNat / 2 ^ t : Nat) : Int) := by rw [Int.natCast_ediv]; simp
  rw [e, Int.tmod_eq_emod_of_nonneg (Int.natCast_nonneg _), BitVec.getLsbD, Nat.testBit_eq_decide_div_mod_eq]
  rw [Bool.eq_iff_iff, beq_iff_eq, decide_eq_true_iff]
  omega
attribute [local go_sem] growUpon
set_option maxRecDepth 100000 in
set_option maxHeartbeats 1000000 in
theorem early1 (a0 : Option Addr) (len0 cap0 : Nat) (z0 : List Int) (n1 : Int) (s2 : BitVec 32) (w : World) (w0 : Bytes w a0 len0 z0) (c0 : len0 ≤ cap0 ∧ cap0 ≤ 140737488351232) (v1 : 0 ≤ n1 ∧ n1 ≤ 65535)  (hl : len0 < 4) :
    Calls Try.prog 5 #[.slice a0 len0 cap0, .int .u16 n1, U s2] w fun e w' => e = .returned (.bool true) ∧ Below w.heap.size w w' := by
  have hl2 : (len0 : Int) < 4 := by omega
  have hd : decide ((len0 : Int) < 4) = true := by simp; omega
  clear w0 hl
  simp only [U]
  go_enter Try.func5, Try.ntmps5
  go_wp2_with (first | (go_at_call 9; refine (head_calls _).mono ?_; rintro e w1 ⟨rfl, hb1⟩; have HB1 := Aside0.mk hb1; clear hb1))
  go_ret
  exact ⟨by simp, HB1.out⟩
set_option maxRecDepth 100000 in
set_option maxHeartbeats 1000000 in
theorem early2 (a0 : Option Addr) (len0 cap0 : Nat) (z0 : List Int) (n1 : Int) (s2 : BitVec 32) (w : World) (w0 : Bytes w a0 len0 z0) (c0 : len0 ≤ cap0 ∧ cap0 ≤ 140737488351232) (v1 : 0 ≤ n1 ∧ n1 ≤ 65535)  (hl0 : ¬ len0 < 4) (hl : 4000 < len0) :
    Calls Try.prog 5 #[.slice a0 len0 cap0, .int .u16 n1, U s2] w fun e w' => e = .returned (.bool true) ∧ Below w.heap.size w w' := by
  have hd0 : decide ((len0 : Int) < 4) = false := by simp; omega
  have hd : decide (4000 < (len0 : Int)) = true := by simp; omega
  clear w0 hl hl0
  simp only [U]
  go_enter Try.func5, Try.ntmps5
  go_wp2_with (first | (go_at_call 9; refine (head_calls _).mono ?_; rintro e w1 ⟨rfl, hb1⟩; have HB1 := Aside0.mk hb1; clear hb1))
  go_ret
  exact ⟨by simp, HB1.out⟩
set_option maxRecDepth 100000 in
set_option maxHeartbeats 1000000 in
theorem late (a0 : Option Addr) (len0 cap0 : Nat) (z0 : List Int) (n1 : Int) (s2 : BitVec 32) (w : World) (w0 : Bytes w a0 len0 z0) (c0 : len0 ≤ cap0 ∧ cap0 ≤ 140737488351232) (v1 : 0 ≤ n1 ∧ n1 ≤ 65535)  (hl0 : ¬ len0 < 4) (hl : ¬ 4000 < len0) (k : Nat) (hk : k + 32 ≤ 8 * len0) (hkm : n1 % (8 * (len0 : Int) - 31) = (k : Int)) :
    Calls Try.prog 5 #[.slice a0 len0 cap0, .int .u16 n1, U s2] w fun e w' => e = .returned (.bool true) ∧ Below w.heap.size w w' := by
  have hd0 : decide ((len0 : Int) < 4) = false := by simp; omega
  have hd : decide (4000 < (len0 : Int)) = false := by simp; omega
  have h4 : (4 : Int) ≤ (len0 : Int) := by omega
  have h40 : (len0 : Int) ≤ 4000 := by omega
  obtain ⟨v10, v11⟩ := v1
  have HW0 := Aside0.mk w0
  have HZ := Aside0.mk zero23
  clear w0 hl hl0
  simp only [U]
  go_enter Try.func5, Try.ntmps5
  go_wp2_with (first
    | (go_at_call 9; refine (head_calls _).mono ?_; rintro e w1 ⟨rfl, hb1⟩; have HB1 := Aside0.mk hb1; clear hb1)
    | (go_at_call 10; refine (table_calls _).mono ?_; rintro e w2 ⟨rfl, hb2⟩; have HB2 := Aside0.mk hb2; clear hb2; have hz := HZ.out)
    | (refine wpList_store_row rfl 23 _ _ rfl w2.heap.size (cellsOf tab) rfl rfl 23 zs0 (heap_alloc_new _ _) (by rw [info23, cellsOf_size]) (by rw [zs0, cellsOf_size, cellsOf_size]) (cellsOf_one tab) ?_; clear hz; have hb3 : Below w.heap.size w ((w2.alloc (Obj.cells zs0 23)).setRow w2.heap.size (cellsOf tab)) := below_setRow ((below_tail HB1.out HB2.out).alloc (below_tail HB1.out HB2.out).size _) _ _ (below_tail HB1.out HB2.out).size; have hrow : ((w2.alloc (Obj.cells zs0 23)).setRow w2.heap.size (cellsOf tab)).heap[w2.heap.size]? = some (.cells (cellsOf tab) 23 (0, 0)) := setRow_heap _ _ _ _ _ _ (heap_alloc_new _ _); generalize (w2.alloc (Obj.cells zs0 23)).setRow w2.heap.size (cellsOf tab) = W at hb3 hrow ⊢; generalize w2.heap.size = B at hrow ⊢; have HH := Aside0.mk hrow; have HB := Aside0.mk hb3; have HX0 := Aside0.mk (HW0.out.below hb3); clear hrow hb3; simp only [Act.put])
    | (at_builtin; refine print_append_row (w0 := W) W.heap.size rfl (.tmp 30) (.tmp 31) 24 5 .u8 1 rfl Try.underlying24 info5 (by omega) (.slice (some ⟨W.heap.size, 0, none⟩) 0 0) [] z0 a0 len0 cap0 rfl rfl (own_lit W W.heap.size 5 .u8 [] (Nat.le_refl _) (by simp)) (HX0.out.below ((Below.refl _ W).alloc (Nat.le_refl _) _)).reads ((Below.refl _ W).alloc (Nat.le_refl _) _) (by simp) (by simp; omega) ?_; intro v3 W3 ho3 hb3 _ _; simp only [List.nil_append, HW0.out.len] at ho3; have HO3 := Aside0.mk ho3; have HB3 := Aside0.mk hb3; clear ho3 hb3))
  obtain ⟨g, cap, rfl, hgb, hgl⟩ := HO3.out.form (by omega)
  have hk32 : (k : Int) + 32 ≤ 8 * (len0 : Int) := by omega
  clear hkm hgl
  go_loopg [11] 32 (fun gg i wr => ∃ (t : Nat) (xs : List Int), Aside0 (gg + t = 32) ∧ t ≤ 32 ∧ i = .int .i64 t ∧ Aside0 (wr.ownsRow W.heap.size 5 1 (.slice (some ⟨g, 0, none⟩) len0 cap) len0 (nums .u8 xs) ∧ Turned k s2 z0 t xs ∧ Below W.heap.size W wr))
  case atStart => exact ⟨0, z0, ⟨rfl⟩, by omega, rfl, ⟨HO3.out, Turned.zero HW0.out.rng, HB3.out⟩⟩
  case round =>
    obtain ⟨t, xs, HT, ht, rfl, HR⟩ := hrel
    by_cases hlt : t < 32
    · have hi0 : (0 : Int) ≤ ((k : Int) + (t : Int)) / 8 := by omega
      have hi1 : ((k : Int) + (t : Int)) / 8 < (len0 : Int) := by omega
      have hlt2 : (t : Int) < 32 := by omega
      have hbit := bit_of s2 t
      by_cases hw : s2.getLsbD t = true
      · rw [hw] at hbit
        have hat := own_at HR.out.1 (((k + t) / 8 : Nat) : Int) (by omega) (by omega)
        obtain ⟨hc, hf⟩ := hat
        simp only [Int.toNat_natCast] at hc hf
        have hq0 : (0 : Int) ≤ ((k : Int) + (t : Int)) % 8 := by omega
        have hq1 : ((k : Int) + (t : Int)) % 8 ≤ 8 := by omega
        go_wp2
        go_region
        go_wp2
        go_roundg (gk - 1)
        case measure => have := HT.out; omega
        case rel =>
          refine ⟨t + 1, xs.set ((k + t) / 8) (Go.bits .xor .u8 (xs.getD ((k + t) / 8) 0) (2 ^ ((k + t) % 8))), ⟨by have := HT.out; omega⟩, by omega, by go_num, ⟨?_, HR.out.2.1.turn hw (by rw [HW0.out.len]; omega), ?_⟩⟩
          · have := (own_store HR.out.1 (((k + t) / 8 : Nat) : Int) (Go.bits .xor .u8 (xs.getD ((k + t) / 8) 0) (2 ^ ((k + t) % 8)))).1
            have e1 : rd xs (((k : Int) + (t : Int)) / 8) = xs.getD ((k + t) / 8) 0 := by
              unfold rd
              rw [show (((k : Int) + (t : Int)) / 8).toNat = (k + t) / 8 by omega]
            have e2 : (2 : Int) ^ ((k + t) % 8) % 256 = 2 ^ ((k + t) % 8) := by
              have := pow_byte ((k + t) % 8) (by omega)
              unfold isByte at this
              omega
            rw [e1, e2]
            exact this.drew
          · exact HR.out.2.2.drew.setCell hgb _
      · rw [show s2.getLsbD t = false by simpa using hw] at hbit
        go_wp2
        go_roundg (gk - 1)
        case measure => have := HT.out; omega
        case rel => exact ⟨t + 1, xs, ⟨by have := HT.out; omega⟩, by omega, by go_num, ⟨HR.out.1, HR.out.2.1.skip (by simpa using hw), HR.out.2.2⟩⟩
    · have e32 : t = 32 := by omega
      subst e32
      have HL := Aside0.mk (burst_law HW0.out.rng HR.out.2.1 (by rw [HW0.out.len]; exact hk))
      have hx1 := own_reads HR.out.1
      obtain ⟨A9, c9, e9, hr9⟩ := hx1
      cases e9
      have HX := Aside0.mk (bytes_of_reads hr9 HR.out.2.1.2.1)
      have HY := Aside0.mk (HX0.out.below HR.out.2.2)
      have hrow : Aside0 (wr.heap[B]? = some (.cells (cellsOf tab) 23 (0, 0))) := ⟨(HR.out.2.2.block B (Array.getElem?_eq_some_iff.1 HH.out).1).trans HH.out⟩
      have hq : (((on tab 0#32 xs).toNat : Int) == ((on tab 0#32 z0).toNat : Int)) = ((s2.toNat : Int) == 0) := by
        rw [Bool.eq_iff_iff, beq_iff_eq, beq_iff_eq]
        have h1 := HL.out
        constructor
        · intro h
          have := h1.1 (BitVec.eq_of_toNat_eq (by omega))
          rw [this]; rfl
        · intro h
          have : s2 = 0#32 := BitVec.eq_of_toNat_eq (by simpa using h)
          rw [h1.2 this]
      have HQ := Aside0.mk hq
      clear hq hr9
      go_wp2
      apply wp_region_grow (hm := by kernel_rfl) (hB := by kernel_rfl)
      case h =>
        apply grow_fixed
        case hw => simp [Region.wanted, yielded]
        case ho =>
          intro w' hb hf
          clear hf
          refine ⟨?_⟩
          go_simp
          exact ⟨Ext.refl _ _, rfl⟩
        simp only [Act.put]
        apply grow_fixed
        case hw => simp [Region.wanted, yielded]
        case ho =>
          intro w' hb hf
          clear hf
          refine ⟨?_⟩
          go_simp
          exact ⟨Ext.refl _ _, rfl⟩
        simp only [Act.put]
        apply grow_fixed
        case hw => simp [Region.wanted, yielded]
        case ho =>
          intro w' hb hf
          exact growAt_load_row 23 (.tmp 8) rfl B (by simp [Act.eval]) 23 _ (0, 0) (.array 256 22) (rowAt hrow.out hb) Try.underlying23 rfl (by rw [info23, cellsOf_size]) ⟨Ext.refl _ _, rfl⟩
        simp only [Act.put]
        apply grow_fixed
        case hw => simp [Region.wanted, yielded]
        case ho =>
          intro w' hb hf
          clear hf
          refine ⟨?_⟩
          go_simp
          exact ⟨Ext.refl _ _, rfl⟩
        simp only [Act.put]
        apply grow_fixed (c := .int .u32 ((on tab 0#32 xs).toNat : Int))
        case hw => simp [Region.wanted, yielded]
        case ho =>
          intro w' hb hf
          clear hf
          refine ⟨?_⟩
          go_simp
          exact (of_calls tab (some ⟨g, 0, none⟩) len0 cap xs w' (HX.out.below hb)).mono fun e w4 ⟨he, hb4⟩ => ⟨by rw [he]; rfl, .of_below hb.size hb4⟩
        simp only [Act.put]
        apply grow_fixed
        case hw => simp [Region.wanted, yielded]
        case ho =>
          intro w' hb hf
          exact growAt_load_row 23 (.tmp 8) rfl B (by simp [Act.eval]) 23 _ (0, 0) (.array 256 22) (rowAt hrow.out hb) Try.underlying23 rfl (by rw [info23, cellsOf_size]) ⟨Ext.refl _ _, rfl⟩
        simp only [Act.put]
        apply grow_fixed
        case hw => simp [Region.wanted, yielded]
        case ho =>
          intro w' hb hf
          clear hf
          refine ⟨?_⟩
          go_simp
          exact ⟨Ext.refl _ _, rfl⟩
        simp only [Act.put]
        apply grow_fixed (c := .int .u32 ((on tab 0#32 z0).toNat : Int))
        case hw => simp [Region.wanted, yielded]
        case ho =>
          intro w' hb hf
          clear hf
          refine ⟨?_⟩
          go_simp
          exact (of_calls tab a0 len0 cap0 z0 w' (HY.out.below hb)).mono fun e w4 ⟨he, hb4⟩ => ⟨by rw [he]; rfl, .of_below hb.size hb4⟩
        simp only [Act.put]
        apply grow_fixed
        case hw => simp [Region.wanted, yielded]
        case ho =>
          intro w' hb hf
          clear hf
          have hq := HQ.out
          refine ⟨?_⟩
          go_simp
          exact ⟨Ext.refl _ _, rfl⟩
        simp only [Act.put]
        apply grow_fixed
        case hw => simp [Region.wanted, yielded]
        case ho =>
          intro w' hb hf
          clear hf
          refine ⟨?_⟩
          go_simp
          exact ⟨Ext.refl _ _, rfl⟩
        simp only [Act.put]
        apply grow_fixed
        case hw => simp [Region.wanted, yielded]
        case ho =>
          intro w' hb hf
          clear hf
          refine ⟨?_⟩
          go_simp
          exact ⟨Ext.refl _ _, rfl⟩
        simp only [Act.put]
        apply grow_fixed
        case hw => simp [Region.wanted, yielded]
        case ho =>
          intro w' hb hf
          clear hf
          refine ⟨?_⟩
          go_simp
          exact ⟨Ext.refl _ _, rfl⟩
        simp only [Act.put]
        apply grow_fixed
        case hw => simp [Region.wanted, yielded]
        case ho =>
          intro w' hb hf
          clear hf
          refine ⟨?_⟩
          go_simp
          exact ⟨Ext.refl _ _, rfl⟩
        simp only [Act.put]
        apply grow_fixed
        case hw => simp [Region.wanted, yielded]
        case ho =>
          intro w' hb hf
          clear hf
          refine ⟨?_⟩
          go_simp
          exact ⟨Ext.refl _ _, rfl⟩
        simp only [Act.put]
        refine grow_nil (fun w' hb hf => ?_)
        clear hf
        go_wp2
        go_ret
        refine ⟨?_, below_tail (below_tail HB.out HR.out.2.2) hb⟩
        simp
      case hsp => exact trivial
theorem walk (a0 : Option Addr) (len0 cap0 : Nat) (z0 : List Int) (n1 : Int) (s2 : BitVec 32) (w : World) (w0 : Bytes w a0 len0 z0) (c0 : len0 ≤ cap0 ∧ cap0 ≤ 140737488351232) (v1 : 0 ≤ n1 ∧ n1 ≤ 65535)  :
    Calls Try.prog 5 #[.slice a0 len0 cap0, .int .u16 n1, U s2] w fun e w' => e = .returned (.bool true) ∧ Below w.heap.size w w' := by
  by_cases hl0 : len0 < 4
  · exact early1 a0 len0 cap0 z0 n1 s2 w w0 c0 v1 hl0
  · by_cases hl : 4000 < len0
    · exact early2 a0 len0 cap0 z0 n1 s2 w w0 c0 v1 hl0 hl
    · have h0 := Int.emod_nonneg n1 (b := 8 * (len0 : Int) - 31) (by omega)
      have h1 := Int.emod_lt_of_pos n1 (b := 8 * (len0 : Int) - 31) (by omega)
      obtain ⟨k, hk⟩ := Int.eq_ofNat_of_zero_le h0
      exact late a0 len0 cap0 z0 n1 s2 w w0 c0 v1 hl0 hl k (by omega) hk

set_option maxRecDepth 100000 in
theorem lifted (os : Os) (started : os.Started) (H : Type) (enc : TypeId × Value → H) :
    ReturnsInHanded {} Try.checked os 5 .any (Rows.sumBurstsSpec.pre6 enc Try.prog Try.f5 Rows.sumBurstsRow.domain false) (Rows.sumBurstsSpec.post enc Try.prog Try.f5 false true false false) := by
  refine returnsInHanded_of_change_sized (C := Try.checked) own started (by kernel_rfl) Try.func5
    (ChangeSpec.witness6 (enc := enc) (C := Try.checked) false ⟨#[], #[.slice none 0 0, .int .u16 0, .int .u32 0], []⟩ 8 (by kernel_rfl) (by kernel_rfl) (by kernel_rfl) (by kernel_rfl)) ?_
  intro W base args ds gs before hval0 hW hcnd hsz0 _
  have hval : ∀ (j : Nat) t v, Try.f5.params[j]? = some t → args[j]? = some v → Value.okWide Try.prog W .any base t v := hval0
  have hW' := hW
  obtain ⟨p, q, hA0, hV, rfl, hfz, hnd⟩ := hW
  have hA : DataW.TrodAll enc Try.prog W 0 (fun _ => true) true Try.f5.params.toList args.toList ds p := hA0
  have hsz : (DataW.weightsEach Try.prog (Try.f5.params.toList ++ Rows.sumBurstsSpec.plain.varTypes Try.prog) (ds ++ gs)).all (· ≤ reachBytes) = true := hsz0
  rw [Try.params5] at hA hval hsz
  obtain ⟨v0, vs0, d0, ds0, p0, q0, hargs, rfl, rfl, h0, r0⟩ := trodAll_cons hA
  obtain ⟨v1, vs1, d1, ds1, p1, q1, rfl, rfl, rfl, h1, r1⟩ := trodAll_cons r0
  obtain ⟨v2, vs2, d2, ds2, p2, q2, rfl, rfl, rfl, h2, r2⟩ := trodAll_cons r1
  obtain ⟨rfl, rfl, rfl⟩ := trodAll_nil r2
  obtain rfl : args = #[v0, v1, v2] := by cases args; simp_all
  obtain ⟨rfl, rfl⟩ := trodVars_none hV
  have k0 := h0
  have lt0 : ∀ x ∈ p0, x.block < W.heap.size := by obtain ⟨m, hm⟩ := k0; exact DataW.trod_lt m _ _ _ hm
  obtain ⟨a0, len0, cap0, z0, rfl, w0, c0, m0⟩ := open_bytes 0 (hval 0 24 v0 rfl rfl) h0 hsz rfl rfl
  have k1 := h1
  have lt1 : ∀ x ∈ p1, x.block < W.heap.size := by obtain ⟨m, hm⟩ := k1; exact DataW.trod_lt m _ _ _ hm
  obtain ⟨n1, rfl, hd1, hp1, hw1⟩ := open_int Try.underlying32 (hval 1 32 v1 rfl rfl) h1
  have k2 := h2
  have lt2 : ∀ x ∈ p2, x.block < W.heap.size := by obtain ⟨m, hm⟩ := k2; exact DataW.trod_lt m _ _ _ hm
  obtain ⟨n2, rfl, hd2, hp2, hw2⟩ := open_int Try.underlying22 (hval 2 22 v2 rfl rfl) h2
  obtain ⟨s2, rfl⟩ := u32_of hw2
  clear hA0 hval0 hsz0
  refine (walk a0 len0 cap0 z0 n1 s2 W w0 ⟨c0, m0⟩ (by simpa [Lit.wf, IntKind.min, IntKind.max, IntKind.signed, IntKind.bits] using hw1) ).mono fun e W' ⟨he, bel⟩ => ?_
  subst he
  exact ⟨_, rfl, _, _, _, [], _, [], hW', trodAll_mk1 (shut_bool Try.underlying4 _), (trodAll_cons_mk (Below.trod laidOut (by kernel_rfl) (of_decide_eq_true (by kernel_rfl)) k0 bel lt0) (trodAll_cons_mk (Below.trod laidOut (by kernel_rfl) (of_decide_eq_true (by kernel_rfl)) k1 bel lt1) (trodAll_cons_mk (Below.trod laidOut (by kernel_rfl) (of_decide_eq_true (by kernel_rfl)) k2 bel lt2) trodAll_mk0))), rfl, bel.frame _, fun h => by cases h⟩

theorem over : Rows.sumBurstsRow.holds Try.pinned (OpenSpec.ofChange Rows.sumBurstsSpec) :=
  OpenClaim.holds_of_wide 5 Try.f5 rfl rfl rfl rfl rfl rfl rfl ⟨rfl, rfl, rfl, rfl, rfl⟩ rfl rfl rfl rfl rfl (by kernel_rfl) Try.func5 (by kernel_rfl)
    (of_decide_eq_true (by kernel_rfl)) (by unfold Func.isWrapper; first | (rw [if_pos (by decide +kernel)]; kernel_rfl) | (rw [if_neg (by decide +kernel)]; exact ⟨rfl, rfl⟩))
    (fun os started H enc _ => lifted os started H enc)

theorem proved : Rows.SumBurstsSaid := over
#print axioms proved
end Go.Proofs.Ytnbjmhlijepkfaa.sumBursts
