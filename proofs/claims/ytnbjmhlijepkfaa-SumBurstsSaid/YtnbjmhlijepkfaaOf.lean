/-
  What Of computes, by the contract of On; the document's Of likewise.
-/
import Derived.Test.YtnbjmhlijepkfaaCalls
namespace Go.Proofs.Ytnbjmhlijepkfaa
set_option linter.unusedVariables false
set_option linter.unusedSimpArgs false
open Go.RowKit Crc

set_option maxRecDepth 100000 in
set_option maxHeartbeats 400000 in
theorem of_calls (f : Nat → BitVec 32) (A : Option Addr) (n c : Nat) (zs : List Int) (w : World) (hr : Bytes w A n zs) :
    Calls Try.prog 14 #[.agg (cellsOf f), .slice A n c] w fun e w' => e = .returned (U (on f 0#32 zs)) ∧ Below w.heap.size w w' := by
  have h := fun W (hb : Below w.heap.size w W) => on_calls f 0#32 A n c zs W (hr.below hb)
  have H := Aside0.mk h
  clear h hr
  have hb1 : Below w.heap.size w (w.alloc (.cells (cellsOf f) 23)) := (Below.refl _ _).alloc (Nat.le_refl _) _
  simp only [U]
  go_enter Try.func14, Try.ntmps14
  go_wp2_with (first | (refine wpList_load_row rfl 23 _ rfl w.heap.size rfl 23 _ (0, 0) _ (heap_alloc_new w _) Try.underlying23 rfl (by rw [info23, cellsOf_size]) ?_) | (go_at_call 12; refine (H.out _ hb1).mono ?_; rintro e w2 ⟨rfl, hb2⟩; simp only [U]))
  go_ret
  exact ⟨rfl, below_tail hb1 hb2⟩
set_option maxRecDepth 100000 in
set_option maxHeartbeats 400000 in
theorem rof_calls (f : Nat → BitVec 32) (A : Option Addr) (n c : Nat) (zs : List Int) (w : World) (hr : Bytes w A n zs) :
    Calls Try.prog 15 #[.agg (cellsOf f), .slice A n c] w fun e w' => e = .returned (U (on f 0#32 zs)) ∧ Below w.heap.size w w' := by
  have h := fun W (hb : Below w.heap.size w W) => ron_calls f 0#32 A n c zs W (hr.below hb)
  have H := Aside0.mk h
  clear h hr
  have hb1 : Below w.heap.size w (w.alloc (.cells (cellsOf f) 23)) := (Below.refl _ _).alloc (Nat.le_refl _) _
  simp only [U]
  go_enter Try.func15, Try.ntmps15
  go_wp2_with (first | (refine wpList_load_row rfl 23 _ rfl w.heap.size rfl 23 _ (0, 0) _ (heap_alloc_new w _) Try.underlying23 rfl (by rw [info23, cellsOf_size]) ?_) | (go_at_call 13; refine (H.out _ hb1).mono ?_; rintro e w2 ⟨rfl, hb2⟩; simp only [U]))
  go_ret
  exact ⟨rfl, below_tail hb1 hb2⟩
end Go.Proofs.Ytnbjmhlijepkfaa
