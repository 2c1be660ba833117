/-
  The law SumOn: the Go function returns true at every input, and writes nothing that was there.
-/
import Derived.Test.YtnbjmhlijepkfaaRows
import Derived.WalkKit
import Derived.ProofKit
import Derived.OpenShut
import Derived.ShutString
import Derived.ChangeOld
import Derived.Below
import Derived.SizedLaws
import Derived.Test.YtnbjmhlijepkfaaOpen

namespace Go.Proofs.Ytnbjmhlijepkfaa.sumOn
open Go.ChangeShapes Go.WideShapes Go.ChangeAt Go.RowKit
open Go.Proofs.Ytnbjmhlijepkfaa Crc Go.Proofs.YtnbjmhlijepkfaaW.PrintWords
set_option linter.unusedVariables false
set_option linter.unusedSimpArgs false

theorem own : ownKnob Try.prog.godebug = none := by kernel_rfl
theorem laidOut : laidOutB Try.prog = true := by kernel_rfl

theorem rowAt {w : World} {B : Nat} {cs : Array Value} (h : w.heap[B]? = some (.cells cs 23 (0, 0))) {w' : World} (hb : Below w.heap.size w w') : w'.heap[B]? = some (.cells cs 23 (0, 0)) :=
  (hb.block B (Array.getElem?_eq_some_iff.1 h).1).trans h
attribute [local go_sem] growUpon
set_option maxRecDepth 100000 in
set_option maxHeartbeats 1000000 in
theorem early (f0 : Nat → BitVec 32) (s1 : BitVec 32) (a2 : Option Addr) (len2 cap2 : Nat) (z2 : List Int) (a3 : Option Addr) (len3 cap3 : Nat) (z3 : List Int) (w : World)   (w2 : Bytes w a2 len2 z2) (c2 : len2 ≤ cap2 ∧ cap2 ≤ 140737488351232) (w3 : Bytes w a3 len3 z3) (c3 : len3 ≤ cap3 ∧ cap3 ≤ 140737488351232) (hl : 20000 < len2 + len3) :
    Calls Try.prog 4 #[.agg (cellsOf f0), U s1, .slice a2 len2 cap2, .slice a3 len3 cap3] w fun e w' => e = .returned (.bool true) ∧ Below w.heap.size w w' := by
  have HW := Aside0.mk w2
  have hl2 : (20000 : Int) < (len2 : Int) + (len3 : Int) := by omega
  clear w2 w3 hl
  simp only [U]
  go_enter Try.func4, Try.ntmps4
  go_wp2_with (first | (go_at_call 9; refine (head_calls _).mono ?_; rintro e w1 ⟨rfl, hb1⟩; have HB1 := Aside0.mk hb1; clear hb1))
  go_ret
  exact ⟨rfl, below_tail ((Below.refl w.heap.size w).alloc (Nat.le_refl _) _) HB1.out⟩
set_option maxRecDepth 100000 in
set_option maxHeartbeats 1000000 in
theorem late (f0 : Nat → BitVec 32) (s1 : BitVec 32) (a2 : Option Addr) (len2 cap2 : Nat) (z2 : List Int) (a3 : Option Addr) (len3 cap3 : Nat) (z3 : List Int) (w : World)   (w2 : Bytes w a2 len2 z2) (c2 : len2 ≤ cap2 ∧ cap2 ≤ 140737488351232) (w3 : Bytes w a3 len3 z3) (c3 : len3 ≤ cap3 ∧ cap3 ≤ 140737488351232) (hl : ¬ 20000 < len2 + len3) :
    Calls Try.prog 4 #[.agg (cellsOf f0), U s1, .slice a2 len2 cap2, .slice a3 len3 cap3] w fun e w' => e = .returned (.bool true) ∧ Below w.heap.size w w' := by
  have HW2 := Aside0.mk w2
  have HW3 := Aside0.mk w3
  have hl2 : (len2 : Int) + (len3 : Int) ≤ 20000 := by omega
  clear w2 w3 hl
  simp only [U]
  go_enter Try.func4, Try.ntmps4
  have h0 : Below w.heap.size w (w.alloc (.cells (cellsOf f0) 23)) := (Below.refl w.heap.size w).alloc (Nat.le_refl _) _
  have H0 := Aside0.mk h0
  clear h0
  go_wp2_with (first | (go_at_call 9; refine (head_calls _).mono ?_; rintro e w1 ⟨rfl, hb1⟩; have HB1 : Aside0 (Below (w.heap.size + 1) (w.alloc (.cells (cellsOf f0) 23)) w1) := ⟨by simpa using hb1⟩; clear hb1) | (at_builtin; refine print_append_row (w0 := w.alloc (.cells (cellsOf f0) 23)) (w.heap.size + 1) rfl (.tmp 19) (.tmp 20) 24 5 .u8 1 rfl Try.underlying24 info5 (by omega) (.slice (some ⟨w1.heap.size, 0, none⟩) 0 0) [] z2 a2 len2 cap2 rfl rfl (own_lit w1 (w.heap.size + 1) 5 .u8 [] (by have := HB1.out.size; simpa using this) (by simp)) (HW2.out.below ((H0.out.trans (HB1.out.mono (Nat.le_succ _))).alloc (by have := HB1.out.size; simp at this; omega) _)).reads (HB1.out.alloc (by have := HB1.out.size; simpa using this) _) (by have := HB1.out.size; simp at this ⊢; omega) (by simp; omega) ?_; intro v3 W3 ho3 hb3 _ _; have HO3 := Aside0.mk ho3; have HB3 := Aside0.mk hb3; clear ho3 hb3) | (at_builtin; refine print_append_row (w0 := w.alloc (.cells (cellsOf f0) 23)) (w.heap.size + 1) rfl (.tmp 21) (.tmp 22) 24 5 .u8 1 rfl Try.underlying24 info5 (by omega) v3 z2 z3 a3 len3 cap3 rfl rfl HO3.out (HW3.out.below (H0.out.trans (HB3.out.mono (Nat.le_succ _)))).reads HB3.out (by have := HB3.out.size; simpa using this) (by have := HW2.out.len; omega) ?_; intro v4 W4 ho4 hb4 _ _; generalize hn4 : (z2 ++ z3).length = n4 at ho4; obtain ⟨A4, c4, rfl, hr4⟩ := own_reads ho4; have HR4 := Aside0.mk hr4; have HB4 := Aside0.mk hb4; have HG4 := Aside0.mk hn4; clear hr4 hb4 hn4 ho4))
  have hrow0 : W4.heap[w.heap.size]? = some (.cells (cellsOf f0) 23 (0, 0)) := (HB4.out.block w.heap.size (Nat.lt_succ_self _)).trans (heap_alloc_new w _)
  have HBW : Aside0 (Below w.heap.size w W4) := ⟨H0.out.trans (HB4.out.mono (Nat.le_succ _))⟩
  have H00 := Aside0.mk hrow0
  clear hrow0
  have HBS := Aside0.mk (bytes_of_reads HR4.out (fun z hz => (List.mem_append.1 hz).elim (HW2.out.rng z) (HW3.out.rng z)))
  apply wp_region_grow (hm := by kernel_rfl) (hB := by kernel_rfl)
  case h =>
    apply grow_fixed
    case hw => simp [Region.wanted, yielded]
    case ho =>
      intro w' hb hf
      clear hf
      refine ⟨?_⟩
      go_simp
      exact ⟨Ext.refl _ _, rfl⟩
    simp only [Act.put]
    apply grow_fixed
    case hw => simp [Region.wanted, yielded]
    case ho =>
      intro w' hb hf
      clear hf
      refine ⟨?_⟩
      go_simp
      exact ⟨Ext.refl _ _, rfl⟩
    simp only [Act.put]
    apply grow_fixed
    case hw => simp [Region.wanted, yielded]
    case ho =>
      intro w' hb hf
      exact growAt_load_row 23 (.tmp 4) rfl w.heap.size (by simp [Act.eval]) 23 _ (0, 0) (.array 256 22) (rowAt H00.out hb) Try.underlying23 rfl (by rw [info23, cellsOf_size]) ⟨Ext.refl _ _, rfl⟩
    simp only [Act.put]
    apply grow_fixed
    case hw => simp [Region.wanted, yielded]
    case ho =>
      intro w' hb hf
      exact growAt_load_row 23 (.tmp 4) rfl w.heap.size (by simp [Act.eval]) 23 _ (0, 0) (.array 256 22) (rowAt H00.out hb) Try.underlying23 rfl (by rw [info23, cellsOf_size]) ⟨Ext.refl _ _, rfl⟩
    simp only [Act.put]
    apply grow_fixed
    case hw => simp [Region.wanted, yielded]
    case ho =>
      intro w' hb hf
      clear hf
      refine ⟨?_⟩
      go_simp
      exact ⟨Ext.refl _ _, rfl⟩
    simp only [Act.put]
    apply grow_fixed
    case hw => simp [Region.wanted, yielded]
    case ho =>
      intro w' hb hf
      clear hf
      refine ⟨?_⟩
      go_simp
      exact ⟨Ext.refl _ _, rfl⟩
    simp only [Act.put]
    apply grow_fixed (c := .int .u32 ((on f0 s1 z2).toNat : Int))
    case hw => simp [Region.wanted, yielded]
    case ho =>
      intro w' hb hf
      clear hf
      refine ⟨?_⟩
      go_simp
      exact (on_calls f0 s1 a2 len2 cap2 z2 w' ((HW2.out.below HBW.out).below hb)).mono fun e w4 ⟨he, hb4⟩ => ⟨by rw [he]; rfl, .of_below hb.size hb4⟩
    simp only [Act.put]
    apply grow_fixed
    case hw => simp [Region.wanted, yielded]
    case ho =>
      intro w' hb hf
      clear hf
      refine ⟨?_⟩
      go_simp
      exact ⟨Ext.refl _ _, rfl⟩
    simp only [Act.put]
    apply grow_fixed (c := .int .u32 ((on f0 s1 (z2 ++ z3)).toNat : Int))
    case hw => simp [Region.wanted, yielded]
    case ho =>
      intro w' hb hf
      clear hf
      refine ⟨?_⟩
      go_simp
      exact (on_calls f0 (on f0 s1 z2) a3 len3 cap3 z3 w' ((HW3.out.below HBW.out).below hb)).mono fun e w4 ⟨he, hb4⟩ => ⟨by rw [he, on_append]; rfl, .of_below hb.size hb4⟩
    simp only [Act.put]
    apply grow_fixed
    case hw => simp [Region.wanted, yielded]
    case ho =>
      intro w' hb hf
      exact growAt_load_row 23 (.tmp 4) rfl w.heap.size (by simp [Act.eval]) 23 _ (0, 0) (.array 256 22) (rowAt H00.out hb) Try.underlying23 rfl (by rw [info23, cellsOf_size]) ⟨Ext.refl _ _, rfl⟩
    simp only [Act.put]
    apply grow_fixed
    case hw => simp [Region.wanted, yielded]
    case ho =>
      intro w' hb hf
      clear hf
      refine ⟨?_⟩
      go_simp
      exact ⟨Ext.refl _ _, rfl⟩
    simp only [Act.put]
    apply grow_fixed
    case hw => simp [Region.wanted, yielded]
    case ho =>
      intro w' hb hf
      clear hf
      refine ⟨?_⟩
      go_simp
      exact ⟨Ext.refl _ _, rfl⟩
    simp only [Act.put]
    apply grow_fixed (c := .int .u32 ((on f0 s1 (z2 ++ z3)).toNat : Int))
    case hw => simp [Region.wanted, yielded]
    case ho =>
      intro w' hb hf
      clear hf
      refine ⟨?_⟩
      go_simp
      exact (on_calls f0 s1 A4 n4 c4 (z2 ++ z3) w' (HBS.out.below hb)).mono fun e w4 ⟨he, hb4⟩ => ⟨by rw [he]; rfl, .of_below hb.size hb4⟩
    simp only [Act.put]
    apply grow_fixed
    case hw => simp [Region.wanted, yielded]
    case ho =>
      intro w' hb hf
      clear hf
      refine ⟨?_⟩
      go_simp
      exact ⟨Ext.refl _ _, rfl⟩
    simp only [Act.put]
    apply grow_fixed
    case hw => simp [Region.wanted, yielded]
    case ho =>
      intro w' hb hf
      clear hf
      refine ⟨?_⟩
      go_simp
      exact ⟨Ext.refl _ _, rfl⟩
    simp only [Act.put]
    apply grow_fixed
    case hw => simp [Region.wanted, yielded]
    case ho =>
      intro w' hb hf
      clear hf
      refine ⟨?_⟩
      go_simp
      exact ⟨Ext.refl _ _, rfl⟩
    simp only [Act.put]
    apply grow_fixed
    case hw => simp [Region.wanted, yielded]
    case ho =>
      intro w' hb hf
      exact growAt_load_row 23 (.tmp 4) rfl w.heap.size (by simp [Act.eval]) 23 _ (0, 0) (.array 256 22) (rowAt H00.out hb) Try.underlying23 rfl (by rw [info23, cellsOf_size]) ⟨Ext.refl _ _, rfl⟩
    simp only [Act.put]
    apply grow_fixed
    case hw => simp [Region.wanted, yielded]
    case ho =>
      intro w' hb hf
      clear hf
      refine ⟨?_⟩
      go_simp
      exact ⟨Ext.refl _ _, rfl⟩
    simp only [Act.put]
    apply grow_fixed (c := .int .u32 (s1.toNat : Int))
    case hw => simp [Region.wanted, yielded]
    case ho =>
      intro w' hb hf
      clear hf
      refine ⟨?_⟩
      go_simp
      exact (on_calls f0 s1 none 0 0 [] w' (slice_nil w')).mono fun e w4 ⟨he, hb4⟩ => ⟨by rw [he, on_nil]; rfl, .of_below hb.size hb4⟩
    simp only [Act.put]
    apply grow_fixed
    case hw => simp [Region.wanted, yielded]
    case ho =>
      intro w' hb hf
      clear hf
      refine ⟨?_⟩
      go_simp
      exact ⟨Ext.refl _ _, rfl⟩
    simp only [Act.put]
    apply grow_fixed
    case hw => simp [Region.wanted, yielded]
    case ho =>
      intro w' hb hf
      clear hf
      refine ⟨?_⟩
      go_simp
      exact ⟨Ext.refl _ _, rfl⟩
    simp only [Act.put]
    apply grow_fixed
    case hw => simp [Region.wanted, yielded]
    case ho =>
      intro w' hb hf
      clear hf
      refine ⟨?_⟩
      go_simp
      exact ⟨Ext.refl _ _, rfl⟩
    simp only [Act.put]
    apply grow_fixed
    case hw => simp [Region.wanted, yielded]
    case ho =>
      intro w' hb hf
      clear hf
      refine ⟨?_⟩
      go_simp
      exact ⟨Ext.refl _ _, rfl⟩
    simp only [Act.put]
    refine grow_nil (fun w' hb hf => ?_)
    clear hf
    go_wp2
    go_ret
    refine ⟨?_, below_tail HBW.out hb⟩
    simp
  case hsp => exact trivial
theorem walk (f0 : Nat → BitVec 32) (s1 : BitVec 32) (a2 : Option Addr) (len2 cap2 : Nat) (z2 : List Int) (a3 : Option Addr) (len3 cap3 : Nat) (z3 : List Int) (w : World)   (w2 : Bytes w a2 len2 z2) (c2 : len2 ≤ cap2 ∧ cap2 ≤ 140737488351232) (w3 : Bytes w a3 len3 z3) (c3 : len3 ≤ cap3 ∧ cap3 ≤ 140737488351232) :
    Calls Try.prog 4 #[.agg (cellsOf f0), U s1, .slice a2 len2 cap2, .slice a3 len3 cap3] w fun e w' => e = .returned (.bool true) ∧ Below w.heap.size w w' := by
  by_cases hl : 20000 < len2 + len3
  · exact early f0 s1 a2 len2 cap2 z2 a3 len3 cap3 z3 w w2 c2 w3 c3 hl
  · exact late f0 s1 a2 len2 cap2 z2 a3 len3 cap3 z3 w w2 c2 w3 c3 hl

set_option maxRecDepth 100000 in
theorem lifted (os : Os) (started : os.Started) (H : Type) (enc : TypeId × Value → H) :
    ReturnsInHanded {} Try.checked os 4 .any (Rows.sumOnSpec.pre6 enc Try.prog Try.f4 Rows.sumOnRow.domain false) (Rows.sumOnSpec.post enc Try.prog Try.f4 false true false false) := by
  refine returnsInHanded_of_change_sized (C := Try.checked) own started (by kernel_rfl) Try.func4
    (ChangeSpec.witness6 (enc := enc) (C := Try.checked) false ⟨#[], #[.agg zs0, .int .u32 0, .slice none 0 0, .slice none 0 0], []⟩ 8 (by kernel_rfl) (by kernel_rfl) (by kernel_rfl) (by kernel_rfl)) ?_
  intro W base args ds gs before hval0 hW hcnd hsz0 _
  have hval : ∀ (j : Nat) t v, Try.f4.params[j]? = some t → args[j]? = some v → Value.okWide Try.prog W .any base t v := hval0
  have hW' := hW
  obtain ⟨p, q, hA0, hV, rfl, hfz, hnd⟩ := hW
  have hA : DataW.TrodAll enc Try.prog W 0 (fun _ => true) true Try.f4.params.toList args.toList ds p := hA0
  have hsz : (DataW.weightsEach Try.prog (Try.f4.params.toList ++ Rows.sumOnSpec.plain.varTypes Try.prog) (ds ++ gs)).all (· ≤ reachBytes) = true := hsz0
  rw [Try.params4] at hA hval hsz
  obtain ⟨v0, vs0, d0, ds0, p0, q0, hargs, rfl, rfl, h0, r0⟩ := trodAll_cons hA
  obtain ⟨v1, vs1, d1, ds1, p1, q1, rfl, rfl, rfl, h1, r1⟩ := trodAll_cons r0
  obtain ⟨v2, vs2, d2, ds2, p2, q2, rfl, rfl, rfl, h2, r2⟩ := trodAll_cons r1
  obtain ⟨v3, vs3, d3, ds3, p3, q3, rfl, rfl, rfl, h3, r3⟩ := trodAll_cons r2
  obtain ⟨rfl, rfl, rfl⟩ := trodAll_nil r3
  obtain rfl : args = #[v0, v1, v2, v3] := by cases args; simp_all
  obtain ⟨rfl, rfl⟩ := trodVars_none hV
  have k0 := h0
  have lt0 : ∀ x ∈ p0, x.block < W.heap.size := by obtain ⟨m, hm⟩ := k0; exact DataW.trod_lt m _ _ _ hm
  obtain ⟨f0, rfl⟩ := open_table (hval 0 23 v0 rfl rfl) h0
  have k1 := h1
  have lt1 : ∀ x ∈ p1, x.block < W.heap.size := by obtain ⟨m, hm⟩ := k1; exact DataW.trod_lt m _ _ _ hm
  obtain ⟨n1, rfl, hd1, hp1, hw1⟩ := open_int Try.underlying22 (hval 1 22 v1 rfl rfl) h1
  obtain ⟨s1, rfl⟩ := u32_of hw1
  have k2 := h2
  have lt2 : ∀ x ∈ p2, x.block < W.heap.size := by obtain ⟨m, hm⟩ := k2; exact DataW.trod_lt m _ _ _ hm
  obtain ⟨a2, len2, cap2, z2, rfl, w2, c2, m2⟩ := open_bytes 2 (hval 2 24 v2 rfl rfl) h2 hsz rfl rfl
  have k3 := h3
  have lt3 : ∀ x ∈ p3, x.block < W.heap.size := by obtain ⟨m, hm⟩ := k3; exact DataW.trod_lt m _ _ _ hm
  obtain ⟨a3, len3, cap3, z3, rfl, w3, c3, m3⟩ := open_bytes 3 (hval 3 24 v3 rfl rfl) h3 hsz rfl rfl
  clear hA0 hval0 hsz0
  refine (walk f0 s1 a2 len2 cap2 z2 a3 len3 cap3 z3 W   w2 ⟨c2, m2⟩ w3 ⟨c3, m3⟩).mono fun e W' ⟨he, bel⟩ => ?_
  subst he
  exact ⟨_, rfl, _, _, _, [], _, [], hW', trodAll_mk1 (shut_bool Try.underlying4 _), (trodAll_cons_mk (Below.trod laidOut (by kernel_rfl) (of_decide_eq_true (by kernel_rfl)) k0 bel lt0) (trodAll_cons_mk (Below.trod laidOut (by kernel_rfl) (of_decide_eq_true (by kernel_rfl)) k1 bel lt1) (trodAll_cons_mk (Below.trod laidOut (by kernel_rfl) (of_decide_eq_true (by kernel_rfl)) k2 bel lt2) (trodAll_cons_mk (Below.trod laidOut (by kernel_rfl) (of_decide_eq_true (by kernel_rfl)) k3 bel lt3) trodAll_mk0)))), rfl, bel.frame _, fun h => by cases h⟩

theorem over : Rows.sumOnRow.holds Try.pinned (OpenSpec.ofChange Rows.sumOnSpec) :=
  OpenClaim.holds_of_wide 4 Try.f4 rfl rfl rfl rfl rfl rfl rfl ⟨rfl, rfl, rfl, rfl, rfl⟩ rfl rfl rfl rfl rfl (by kernel_rfl) Try.func4 (by kernel_rfl)
    (of_decide_eq_true (by kernel_rfl)) (by unfold Func.isWrapper; first | (rw [if_pos (by decide +kernel)]; kernel_rfl) | (rw [if_neg (by decide +kernel)]; exact ⟨rfl, rfl⟩))
    (fun os started H enc _ => lifted os started H enc)

theorem proved : Rows.SumOnSaid := over
#print axioms proved
end Go.Proofs.Ytnbjmhlijepkfaa.sumOn
