/-
  The law SumTells: the Go function returns true at every input, and writes nothing that was there.
-/
import Derived.Test.YtnbjmhlijepkfaaRows
import Derived.WalkKit
import Derived.ProofKit
import Derived.OpenShut
import Derived.ShutString
import Derived.ChangeOld
import Derived.Below
import Derived.SizedLaws
import Derived.Test.YtnbjmhlijepkfaaOpen
namespace Go.Proofs.Ytnbjmhlijepkfaa.sumTells
open Go.ChangeShapes Go.WideShapes Go.ChangeAt Go.RowKit
open Go.Proofs.Ytnbjmhlijepkfaa Crc
set_option linter.unusedVariables false
set_option linter.unusedSimpArgs false

theorem own : ownKnob Try.prog.godebug = none := by kernel_rfl
theorem laidOut : laidOutB Try.prog = true := by kernel_rfl

theorem rowAt {w : World} {B : Nat} {cs : Array Value} (h : w.heap[B]? = some (.cells cs 23 (0, 0))) {w' : World} (hb : Below w.heap.size w w') : w'.heap[B]? = some (.cells cs 23 (0, 0)) :=
  (hb.block B (Array.getElem?_eq_some_iff.1 h).1).trans h
theorem eqTab (w : World) : (binOp .eql 23 (.agg (cellsOf tab)) (.agg (cellsOf tab))).run Try.prog w = .ok (.bool true) w := by kernel_rfl
theorem bitIs (zs : List Int) (h : ∀ z ∈ zs, isByte z) : ~~~ (bitRun (~~~ 0#32) zs) = on tab 0#32 zs := by
  unfold on
  rw [run_tab _ _ h]
attribute [local go_sem] growUpon
set_option maxRecDepth 100000 in
set_option maxHeartbeats 1000000 in
theorem early (f0 : Nat → BitVec 32) (s1 : BitVec 32) (a2 : Option Addr) (len2 cap2 : Nat) (z2 : List Int) (w : World)   (w2 : Bytes w a2 len2 z2) (c2 : len2 ≤ cap2 ∧ cap2 ≤ 140737488351232) (hl : 20000 < len2) :
    Calls Try.prog 3 #[.agg (cellsOf f0), U s1, .slice a2 len2 cap2] w fun e w' => e = .returned (.bool true) ∧ Below w.heap.size w w' := by
  have HW := Aside0.mk w2
  have hl2 : (20000 : Int) < (len2 : Int) := by omega
  clear w2 hl
  simp only [U]
  go_enter Try.func3, Try.ntmps3
  go_wp2_with (first | (go_at_call 9; refine (head_calls _).mono ?_; rintro e w1 ⟨rfl, hb1⟩; have HB1 := Aside0.mk hb1; clear hb1))
  go_ret
  exact ⟨rfl, below_tail ((Below.refl w.heap.size w).alloc (Nat.le_refl _) _) HB1.out⟩
set_option maxRecDepth 100000 in
set_option maxHeartbeats 1000000 in
theorem late (f0 : Nat → BitVec 32) (s1 : BitVec 32) (a2 : Option Addr) (len2 cap2 : Nat) (z2 : List Int) (w : World)   (w2 : Bytes w a2 len2 z2) (c2 : len2 ≤ cap2 ∧ cap2 ≤ 140737488351232) (hl : ¬ 20000 < len2) :
    Calls Try.prog 3 #[.agg (cellsOf f0), U s1, .slice a2 len2 cap2] w fun e w' => e = .returned (.bool true) ∧ Below w.heap.size w w' := by
  have HW := Aside0.mk w2
  have hl2 : (len2 : Int) ≤ 20000 := by omega
  clear w2 hl
  have HZ := Aside0.mk zero23
  simp only [U]
  go_enter Try.func3, Try.ntmps3
  go_wp2_with (first | (go_at_call 9; refine (head_calls _).mono ?_; rintro e w1 ⟨rfl, hb1⟩; have HB1 := Aside0.mk hb1; clear hb1) | (go_at_call 10; refine (table_calls _).mono ?_; rintro e w2 ⟨rfl, hb2⟩; have hz := HZ.out) | (refine wpList_store_row rfl 23 _ _ rfl w2.heap.size (cellsOf tab) rfl rfl 23 zs0 (heap_alloc_new _ _) (by rw [info23, cellsOf_size]) (by rw [zs0, cellsOf_size, cellsOf_size]) (cellsOf_one tab) ?_))
  simp only [Act.put]
  have h0 : Below w.heap.size w (w.alloc (.cells (cellsOf f0) 23)) := (Below.refl w.heap.size w).alloc (Nat.le_refl _) _
  have hbx : Below (w.alloc (.cells (cellsOf f0) 23)).heap.size (w.alloc (.cells (cellsOf f0) 23)) ((w2.alloc (Obj.cells zs0 23)).setRow w2.heap.size (cellsOf tab)) := below_setRow ((below_tail HB1.out hb2).alloc (below_tail HB1.out hb2).size _) _ _ (below_tail HB1.out hb2).size
  have hb3 := below_tail h0 hbx
  have hrow0 : ((w2.alloc (Obj.cells zs0 23)).setRow w2.heap.size (cellsOf tab)).heap[w.heap.size]? = some (.cells (cellsOf f0) 23 (0, 0)) := rowAt (heap_alloc_new w _) hbx
  have hrow : ((w2.alloc (Obj.cells zs0 23)).setRow w2.heap.size (cellsOf tab)).heap[w2.heap.size]? = some (.cells (cellsOf tab) 23 (0, 0)) := setRow_heap _ _ _ _ _ _ (heap_alloc_new _ _)
  clear hbx
  generalize (w2.alloc (Obj.cells zs0 23)).setRow w2.heap.size (cellsOf tab) = W at hb3 hrow hrow0 ⊢
  generalize w2.heap.size = B at hrow ⊢
  have HH := Aside0.mk hrow
  have H0 := Aside0.mk hrow0
  have HB := Aside0.mk hb3
  have HWB := Aside0.mk (HW.out.below hb3)
  clear hrow hrow0 hb2 hb3 HZ hz HB1 h0
  apply wp_region_grow (hm := by kernel_rfl) (hB := by kernel_rfl)
  case h =>
    apply grow_fixed
    case hw => simp [Region.wanted, yielded]
    case ho =>
      intro w' hb hf
      clear hf
      refine ⟨?_⟩
      go_simp
      exact ⟨Ext.refl _ _, rfl⟩
    simp only [Act.put]
    apply grow_fixed
    case hw => simp [Region.wanted, yielded]
    case ho =>
      intro w' hb hf
      clear hf
      refine ⟨?_⟩
      go_simp
      exact ⟨Ext.refl _ _, rfl⟩
    simp only [Act.put]
    apply grow_fixed
    case hw => simp [Region.wanted, yielded]
    case ho =>
      intro w' hb hf
      exact growAt_load_row 23 (.tmp 8) rfl B (by simp [Act.eval]) 23 _ (0, 0) (.array 256 22) (rowAt HH.out hb) Try.underlying23 rfl (by rw [info23, cellsOf_size]) ⟨Ext.refl _ _, rfl⟩
    simp only [Act.put]
    apply grow_fixed (c := .agg (cellsOf tab))
    case hw => simp [Region.wanted, yielded]
    case ho =>
      intro w' hb hf
      clear hf
      refine ⟨?_⟩
      go_simp
      exact (rtable_calls w').mono fun e w4 ⟨he, hb4⟩ => ⟨he, .of_below hb.size hb4⟩
    simp only [Act.put]
    apply grow_fixed
    case hw => simp [Region.wanted, yielded]
    case ho =>
      intro w' hb hf
      clear hf
      have he := eqTab
      refine ⟨?_⟩
      go_simp
      exact ⟨Ext.refl _ _, rfl⟩
    simp only [Act.put]
    apply grow_fixed
    case hw => simp [Region.wanted, yielded]
    case ho =>
      intro w' hb hf
      clear hf
      refine ⟨?_⟩
      go_simp
      exact ⟨Ext.refl _ _, rfl⟩
    simp only [Act.put]
    apply grow_fixed
    case hw => simp [Region.wanted, yielded]
    case ho =>
      intro w' hb hf
      clear hf
      refine ⟨?_⟩
      go_simp
      exact ⟨Ext.refl _ _, rfl⟩
    simp only [Act.put]
    apply grow_fixed
    case hw => simp [Region.wanted, yielded]
    case ho =>
      intro w' hb hf
      exact growAt_load_row 23 (.tmp 3) rfl w.heap.size (by simp [Act.eval]) 23 _ (0, 0) (.array 256 22) (rowAt H0.out hb) Try.underlying23 rfl (by rw [info23, cellsOf_size]) ⟨Ext.refl _ _, rfl⟩
    simp only [Act.put]
    apply grow_fixed
    case hw => simp [Region.wanted, yielded]
    case ho =>
      intro w' hb hf
      clear hf
      refine ⟨?_⟩
      go_simp
      exact ⟨Ext.refl _ _, rfl⟩
    simp only [Act.put]
    apply grow_fixed
    case hw => simp [Region.wanted, yielded]
    case ho =>
      intro w' hb hf
      clear hf
      refine ⟨?_⟩
      go_simp
      exact ⟨Ext.refl _ _, rfl⟩
    simp only [Act.put]
    apply grow_fixed (c := .int .u32 ((on f0 s1 z2).toNat : Int))
    case hw => simp [Region.wanted, yielded]
    case ho =>
      intro w' hb hf
      clear hf
      refine ⟨?_⟩
      go_simp
      exact (on_calls f0 s1 a2 len2 cap2 z2 w' (HWB.out.below hb)).mono fun e w4 ⟨he, hb4⟩ => ⟨by rw [he]; rfl, .of_below hb.size hb4⟩
    simp only [Act.put]
    apply grow_fixed
    case hw => simp [Region.wanted, yielded]
    case ho =>
      intro w' hb hf
      exact growAt_load_row 23 (.tmp 3) rfl w.heap.size (by simp [Act.eval]) 23 _ (0, 0) (.array 256 22) (rowAt H0.out hb) Try.underlying23 rfl (by rw [info23, cellsOf_size]) ⟨Ext.refl _ _, rfl⟩
    simp only [Act.put]
    apply grow_fixed
    case hw => simp [Region.wanted, yielded]
    case ho =>
      intro w' hb hf
      clear hf
      refine ⟨?_⟩
      go_simp
      exact ⟨Ext.refl _ _, rfl⟩
    simp only [Act.put]
    apply grow_fixed
    case hw => simp [Region.wanted, yielded]
    case ho =>
      intro w' hb hf
      clear hf
      refine ⟨?_⟩
      go_simp
      exact ⟨Ext.refl _ _, rfl⟩
    simp only [Act.put]
    apply grow_fixed (c := .int .u32 ((on f0 s1 z2).toNat : Int))
    case hw => simp [Region.wanted, yielded]
    case ho =>
      intro w' hb hf
      clear hf
      refine ⟨?_⟩
      go_simp
      exact (ron_calls f0 s1 a2 len2 cap2 z2 w' (HWB.out.below hb)).mono fun e w4 ⟨he, hb4⟩ => ⟨by rw [he]; rfl, .of_below hb.size hb4⟩
    simp only [Act.put]
    apply grow_fixed
    case hw => simp [Region.wanted, yielded]
    case ho =>
      intro w' hb hf
      clear hf
      refine ⟨?_⟩
      go_simp
      exact ⟨Ext.refl _ _, rfl⟩
    simp only [Act.put]
    apply grow_fixed
    case hw => simp [Region.wanted, yielded]
    case ho =>
      intro w' hb hf
      clear hf
      refine ⟨?_⟩
      go_simp
      exact ⟨Ext.refl _ _, rfl⟩
    simp only [Act.put]
    apply grow_fixed
    case hw => simp [Region.wanted, yielded]
    case ho =>
      intro w' hb hf
      clear hf
      refine ⟨?_⟩
      go_simp
      exact ⟨Ext.refl _ _, rfl⟩
    simp only [Act.put]
    apply grow_fixed
    case hw => simp [Region.wanted, yielded]
    case ho =>
      intro w' hb hf
      exact growAt_load_row 23 (.tmp 3) rfl w.heap.size (by simp [Act.eval]) 23 _ (0, 0) (.array 256 22) (rowAt H0.out hb) Try.underlying23 rfl (by rw [info23, cellsOf_size]) ⟨Ext.refl _ _, rfl⟩
    simp only [Act.put]
    apply grow_fixed
    case hw => simp [Region.wanted, yielded]
    case ho =>
      intro w' hb hf
      clear hf
      refine ⟨?_⟩
      go_simp
      exact ⟨Ext.refl _ _, rfl⟩
    simp only [Act.put]
    apply grow_fixed (c := .int .u32 ((on f0 0#32 z2).toNat : Int))
    case hw => simp [Region.wanted, yielded]
    case ho =>
      intro w' hb hf
      clear hf
      refine ⟨?_⟩
      go_simp
      exact (of_calls f0 a2 len2 cap2 z2 w' (HWB.out.below hb)).mono fun e w4 ⟨he, hb4⟩ => ⟨by rw [he]; rfl, .of_below hb.size hb4⟩
    simp only [Act.put]
    apply grow_fixed
    case hw => simp [Region.wanted, yielded]
    case ho =>
      intro w' hb hf
      exact growAt_load_row 23 (.tmp 3) rfl w.heap.size (by simp [Act.eval]) 23 _ (0, 0) (.array 256 22) (rowAt H0.out hb) Try.underlying23 rfl (by rw [info23, cellsOf_size]) ⟨Ext.refl _ _, rfl⟩
    simp only [Act.put]
    apply grow_fixed
    case hw => simp [Region.wanted, yielded]
    case ho =>
      intro w' hb hf
      clear hf
      refine ⟨?_⟩
      go_simp
      exact ⟨Ext.refl _ _, rfl⟩
    simp only [Act.put]
    apply grow_fixed (c := .int .u32 ((on f0 0#32 z2).toNat : Int))
    case hw => simp [Region.wanted, yielded]
    case ho =>
      intro w' hb hf
      clear hf
      refine ⟨?_⟩
      go_simp
      exact (rof_calls f0 a2 len2 cap2 z2 w' (HWB.out.below hb)).mono fun e w4 ⟨he, hb4⟩ => ⟨by rw [he]; rfl, .of_below hb.size hb4⟩
    simp only [Act.put]
    apply grow_fixed
    case hw => simp [Region.wanted, yielded]
    case ho =>
      intro w' hb hf
      clear hf
      refine ⟨?_⟩
      go_simp
      exact ⟨Ext.refl _ _, rfl⟩
    simp only [Act.put]
    apply grow_fixed
    case hw => simp [Region.wanted, yielded]
    case ho =>
      intro w' hb hf
      clear hf
      refine ⟨?_⟩
      go_simp
      exact ⟨Ext.refl _ _, rfl⟩
    simp only [Act.put]
    apply grow_fixed
    case hw => simp [Region.wanted, yielded]
    case ho =>
      intro w' hb hf
      clear hf
      refine ⟨?_⟩
      go_simp
      exact ⟨Ext.refl _ _, rfl⟩
    simp only [Act.put]
    apply grow_fixed
    case hw => simp [Region.wanted, yielded]
    case ho =>
      intro w' hb hf
      exact growAt_load_row 23 (.tmp 8) rfl B (by simp [Act.eval]) 23 _ (0, 0) (.array 256 22) (rowAt HH.out hb) Try.underlying23 rfl (by rw [info23, cellsOf_size]) ⟨Ext.refl _ _, rfl⟩
    simp only [Act.put]
    apply grow_fixed
    case hw => simp [Region.wanted, yielded]
    case ho =>
      intro w' hb hf
      clear hf
      refine ⟨?_⟩
      go_simp
      exact ⟨Ext.refl _ _, rfl⟩
    simp only [Act.put]
    apply grow_fixed (c := .int .u32 ((on tab 0#32 z2).toNat : Int))
    case hw => simp [Region.wanted, yielded]
    case ho =>
      intro w' hb hf
      clear hf
      refine ⟨?_⟩
      go_simp
      exact (of_calls tab a2 len2 cap2 z2 w' (HWB.out.below hb)).mono fun e w4 ⟨he, hb4⟩ => ⟨by rw [he]; rfl, .of_below hb.size hb4⟩
    simp only [Act.put]
    apply grow_fixed
    case hw => simp [Region.wanted, yielded]
    case ho =>
      intro w' hb hf
      clear hf
      refine ⟨?_⟩
      go_simp
      exact ⟨Ext.refl _ _, rfl⟩
    simp only [Act.put]
    apply grow_fixed (c := .int .u32 ((on tab 0#32 z2).toNat : Int))
    case hw => simp [Region.wanted, yielded]
    case ho =>
      intro w' hb hf
      clear hf
      refine ⟨?_⟩
      go_simp
      exact (bit_calls a2 len2 cap2 z2 w' (HWB.out.below hb)).mono fun e w4 ⟨he, hb4⟩ => ⟨by rw [he, bitIs _ HW.out.rng]; rfl, .of_below hb.size hb4⟩
    simp only [Act.put]
    apply grow_fixed
    case hw => simp [Region.wanted, yielded]
    case ho =>
      intro w' hb hf
      clear hf
      refine ⟨?_⟩
      go_simp
      exact ⟨Ext.refl _ _, rfl⟩
    simp only [Act.put]
    apply grow_fixed
    case hw => simp [Region.wanted, yielded]
    case ho =>
      intro w' hb hf
      clear hf
      refine ⟨?_⟩
      go_simp
      exact ⟨Ext.refl _ _, rfl⟩
    simp only [Act.put]
    apply grow_fixed
    case hw => simp [Region.wanted, yielded]
    case ho =>
      intro w' hb hf
      clear hf
      refine ⟨?_⟩
      go_simp
      exact ⟨Ext.refl _ _, rfl⟩
    simp only [Act.put]
    refine grow_nil (fun w' hb hf => ?_)
    clear hf
    go_wp2
    go_ret
    refine ⟨?_, below_tail HB.out hb⟩
    simp
  case hsp => exact trivial
theorem walk (f0 : Nat → BitVec 32) (s1 : BitVec 32) (a2 : Option Addr) (len2 cap2 : Nat) (z2 : List Int) (w : World)   (w2 : Bytes w a2 len2 z2) (c2 : len2 ≤ cap2 ∧ cap2 ≤ 140737488351232) :
    Calls Try.prog 3 #[.agg (cellsOf f0), U s1, .slice a2 len2 cap2] w fun e w' => e = .returned (.bool true) ∧ Below w.heap.size w w' := by
  by_cases hl : 20000 < len2
  · exact early f0 s1 a2 len2 cap2 z2 w w2 c2 hl
  · exact late f0 s1 a2 len2 cap2 z2 w w2 c2 hl

set_option maxRecDepth 100000 in
theorem lifted (os : Os) (started : os.Started) (H : Type) (enc : TypeId × Value → H) :
    ReturnsInHanded {} Try.checked os 3 .any (Rows.sumTellsSpec.pre6 enc Try.prog Try.f3 Rows.sumTellsRow.domain false) (Rows.sumTellsSpec.post enc Try.prog Try.f3 false true false false) := by
  refine returnsInHanded_of_change_sized (C := Try.checked) own started (by kernel_rfl) Try.func3
    (ChangeSpec.witness6 (enc := enc) (C := Try.checked) false ⟨#[], #[.agg zs0, .int .u32 0, .slice none 0 0], []⟩ 8 (by kernel_rfl) (by kernel_rfl) (by kernel_rfl) (by kernel_rfl)) ?_
  intro W base args ds gs before hval0 hW hcnd hsz0 _
  have hval : ∀ (j : Nat) t v, Try.f3.params[j]? = some t → args[j]? = some v → Value.okWide Try.prog W .any base t v := hval0
  have hW' := hW
  obtain ⟨p, q, hA0, hV, rfl, hfz, hnd⟩ := hW
  have hA : DataW.TrodAll enc Try.prog W 0 (fun _ => true) true Try.f3.params.toList args.toList ds p := hA0
  have hsz : (DataW.weightsEach Try.prog (Try.f3.params.toList ++ Rows.sumTellsSpec.plain.varTypes Try.prog) (ds ++ gs)).all (· ≤ reachBytes) = true := hsz0
  rw [Try.params3] at hA hval hsz
  obtain ⟨v0, vs0, d0, ds0, p0, q0, hargs, rfl, rfl, h0, r0⟩ := trodAll_cons hA
  obtain ⟨v1, vs1, d1, ds1, p1, q1, rfl, rfl, rfl, h1, r1⟩ := trodAll_cons r0
  obtain ⟨v2, vs2, d2, ds2, p2, q2, rfl, rfl, rfl, h2, r2⟩ := trodAll_cons r1
  obtain ⟨rfl, rfl, rfl⟩ := trodAll_nil r2
  obtain rfl : args = #[v0, v1, v2] := by cases args; simp_all
  obtain ⟨rfl, rfl⟩ := trodVars_none hV
  have k0 := h0
  have lt0 : ∀ x ∈ p0, x.block < W.heap.size := by obtain ⟨m, hm⟩ := k0; exact DataW.trod_lt m _ _ _ hm
  obtain ⟨f0, rfl⟩ := open_table (hval 0 23 v0 rfl rfl) h0
  have k1 := h1
  have lt1 : ∀ x ∈ p1, x.block < W.heap.size := by obtain ⟨m, hm⟩ := k1; exact DataW.trod_lt m _ _ _ hm
  obtain ⟨n1, rfl, hd1, hp1, hw1⟩ := open_int Try.underlying22 (hval 1 22 v1 rfl rfl) h1
  obtain ⟨s1, rfl⟩ := u32_of hw1
  have k2 := h2
  have lt2 : ∀ x ∈ p2, x.block < W.heap.size := by obtain ⟨m, hm⟩ := k2; exact DataW.trod_lt m _ _ _ hm
  obtain ⟨a2, len2, cap2, z2, rfl, w2, c2, m2⟩ := open_bytes 2 (hval 2 24 v2 rfl rfl) h2 hsz rfl rfl
  clear hA0 hval0 hsz0
  refine (walk f0 s1 a2 len2 cap2 z2 W   w2 ⟨c2, m2⟩).mono fun e W' ⟨he, bel⟩ => ?_
  subst he
  exact ⟨_, rfl, _, _, _, [], _, [], hW', trodAll_mk1 (shut_bool Try.underlying4 _), (trodAll_cons_mk (Below.trod laidOut (by kernel_rfl) (of_decide_eq_true (by kernel_rfl)) k0 bel lt0) (trodAll_cons_mk (Below.trod laidOut (by kernel_rfl) (of_decide_eq_true (by kernel_rfl)) k1 bel lt1) (trodAll_cons_mk (Below.trod laidOut (by kernel_rfl) (of_decide_eq_true (by kernel_rfl)) k2 bel lt2) trodAll_mk0))), rfl, bel.frame _, fun h => by cases h⟩

theorem over : Rows.sumTellsRow.holds Try.pinned (OpenSpec.ofChange Rows.sumTellsSpec) :=
  OpenClaim.holds_of_wide 3 Try.f3 rfl rfl rfl rfl rfl rfl rfl ⟨rfl, rfl, rfl, rfl, rfl⟩ rfl rfl rfl rfl rfl (by kernel_rfl) Try.func3 (by kernel_rfl)
    (of_decide_eq_true (by kernel_rfl)) (by unfold Func.isWrapper; first | (rw [if_pos (by decide +kernel)]; kernel_rfl) | (rw [if_neg (by decide +kernel)]; exact ⟨rfl, rfl⟩))
    (fun os started H enc _ => lifted os started H enc)

theorem proved : Rows.SumTellsSaid := over
#print axioms proved
end Go.Proofs.Ytnbjmhlijepkfaa.sumTells
