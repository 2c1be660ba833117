/-
  Layer 13: Many, New.
-/
import Derived.Test.YtomlnflblecpbaaPutAll
namespace Go.Proofs.Ytomlnflblecpbaa
set_option linter.unusedVariables false
set_option linter.unusedSimpArgs false
open Go.RowKit Go.Proofs.YtomlnflblecpbaaW.PrintWords Go.Proofs.YtomlnflblecpbaaW.PrintMore
attribute [local go_sem] max2_int min2_int
set_option maxRecDepth 100000 in
theorem many_calls {W : World} {O : Nat → Prop} {d : Nat} {m : List Pl} (h : DirM W O d m) : Calls Try.prog 22 #[.pointer (some ⟨d, 0, none⟩)] W fun e w' => e = .returned (.int .i64 m.length) ∧ w' = W := by
  obtain ⟨rs, vs, hB, hR⟩ := h
  have q1 := hB.c64
  clear hB hR
  go_enter Try.func22, Try.ntmps22
  go_wp2
  go_ret
  exact ⟨rfl, rfl⟩
def zero65 : Array Value := (Array.replicate 64 (.slice none 0 0)).push (.int .i64 0)
theorem info51 : (Try.prog.info? 51).map (fun i => i.zero) = some (some (.agg zero65)) := by kernel_rfl
theorem zero51 (w : World) : (zeroValue 51).run Try.prog w = .ok (.agg zero65) w := by
  obtain ⟨i, hi, hz⟩ := Option.map_eq_some_iff.1 info51
  simp [zeroValue, typeInfo, hi, hz]
theorem zero65_at (i : Nat) (hi : i < 64) : zero65[i]? = some (.slice none 0 0) := by
  unfold zero65
  rw [Array.getElem?_push, if_neg (by simp; omega), Array.getElem?_replicate, if_pos hi]
theorem zero65_last : zero65[64]? = some (.int .i64 0) := by
  unfold zero65
  rw [Array.getElem?_push, if_pos (by simp)]
theorem zero65_size : zero65.size = 65 := by unfold zero65; simp
set_option maxRecDepth 100000 in
set_option maxHeartbeats 1000000 in
theorem new_calls (W : World) : Calls Try.prog 10 #[] W fun e w' => ∃ d, e = .returned (.pointer (some ⟨d, 0, none⟩)) ∧ DirM w' (fun k => W.heap.size ≤ k ∧ k < w'.heap.size) d [] ∧ Grows W w' := by
  have hz := zero51
  go_enter Try.func10, Try.ntmps10
  go_wp2
  go_ret
  exact ⟨_, rfl, ⟨fun _ => [], fun _ => .slice none 0 0, ⟨⟨zero65, heap_alloc_new W _, zero65_size, zero65_at, zero65_last⟩, fun i hi => World.ownsRow_nil _ _ _ _, fun i _ k e => (by cases e), fun i j _ _ _ k e => (by cases e), ⟨Nat.le_refl _, lt_heap (heap_alloc_new W _)⟩⟩, Rel.nil rowOf⟩, (Below.refl W.heap.size W).alloc (Nat.le_refl _) _⟩
end Go.Proofs.Ytomlnflblecpbaa
