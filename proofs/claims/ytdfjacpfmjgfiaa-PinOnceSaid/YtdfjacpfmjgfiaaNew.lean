/-
  Layer 17: a new table; what a handle pins.
-/
import Derived.Test.YtdfjacpfmjgfiaaClone
namespace Go.Proofs.Ytdfjacpfmjgfiaa
set_option linter.unusedVariables false
set_option linter.unusedSimpArgs false
open Go.RowKit Go.Proofs.YtdfjacpfmjgfiaaW.PrintWords Go.Proofs.YtdfjacpfmjgfiaaW.PrintMore
attribute [local go_sem] max2_int
theorem Grows.trans {a b c : World} (h : Grows a b) (k : Grows b c) : Grows a c :=
  ⟨k.os.trans h.os, k.tape.trans h.tape, k.output.trans h.output, Nat.le_trans h.size k.size, fun i hi => (k.block i (Nat.lt_of_lt_of_le hi h.size)).trans (h.block i hi)⟩
theorem hdOf_mem {hs : List Hd} {n : Int} {x : Hd} (h : hdOf hs n = some x) : x ∈ hs ∧ x.key = n := ⟨List.mem_of_find?_eq_some h, by have := List.find?_some h; simpa using this⟩
set_option maxRecDepth 100000 in
set_option maxHeartbeats 1000000 in
theorem of_calls {W : World} {B t S P : Nat} {most next : Int} {hs : List Hd} {ps : List (Int × Int)} (h : Tab W B t S P most next hs ps) (n : Int) (hl : ∀ x ∈ hs, x.l.length ≤ 1000000) :
    Calls Try.prog 24 #[.pointer (some ⟨t, 0, none⟩), .int .i64 n] W fun e w' => ∃ v', e = .returned v' ∧ w'.ownsRow W.heap.size 3 1 v' (((hdOf hs n).map (·.l)).getD []).length (nums .i64 (((hdOf hs n).map (·.l)).getD [])) ∧ Grows W w' := by
  have c2 := h.c2
  have hlk := run_lookok_i Try.underlying48 Try.underlying3 zero55 h.segs n
  rw [look_S] at hlk
  cases hd : hdOf hs n with
  | none =>
    rw [hd] at hlk
    simp only [Option.map_none, Option.getD_none, Option.isSome_none] at hlk ⊢
    clear h
    go_enter Try.func24, Try.ntmps24
    go_wp2
    go_ret
    exact ⟨_, rfl, World.ownsRow_nil _ _ _ _, Below.refl _ _⟩
  | some x =>
    rw [hd] at hlk
    simp only [Option.map_some, Option.getD_some, Option.isSome_some] at hlk ⊢
    have hx := h.box x (hdOf_mem hd).1
    have e0 := cell_of_row W x.box 0 _ 29 (0, 0) hx.1
    have HC := Aside0.mk (clone_calls hx.2 (hl x (hdOf_mem hd).1))
    clear h hx hl hd
    obtain ⟨xk, xb, xv, xl⟩ := x
    simp only at hlk e0 HC ⊢
    replace e0 : W.cell? ⟨xb, 0, none⟩ = some xv := e0
    go_enter Try.func24, Try.ntmps24
    go_wp2_with (go_at_call 35; refine HC.out.mono ?_; clear HC; rintro e w1 ⟨v', rfl, ho, hg⟩; have HO := Aside0.mk ho; have HG := Aside0.mk hg; clear ho hg)
    go_ret
    exact ⟨_, rfl, HO.out, HG.out⟩
set_option maxRecDepth 100000 in
set_option maxHeartbeats 1000000 in
theorem new_none (w : World) (most : Int) (h : ¬ (1 ≤ most ∧ most ≤ 1024)) : Calls Try.prog 10 #[.int .i64 most] w fun e w' => e = .returned (.pointer none) ∧ w' = w := by
  by_cases h1 : most < 1
  · go_enter Try.func10, Try.ntmps10
    go_wp2
    go_ret
    exact ⟨rfl, rfl⟩
  · have h2 : 1024 < most := by omega
    go_enter Try.func10, Try.ntmps10
    go_wp2
    go_ret
    exact ⟨rfl, rfl⟩
set_option maxRecDepth 100000 in
set_option maxHeartbeats 1000000 in
theorem new_some (w : World) (most : Int) (h : 1 ≤ most ∧ most ≤ 1024) : Calls Try.prog 10 #[.int .i64 most] w fun e w' => ∃ t, e = .returned (.pointer (some ⟨t, 0, none⟩)) ∧ ∃ S P, Tab w' w.heap.size t S P most 1 [] [] ∧ Grows w w' ∧ ∀ k, OwnT t S P [] k → w.heap.size ≤ k := by
  have h1 : ¬ most < 1 := by omega
  have h2 : ¬ 1024 < most := by omega
  have hmm := @run_makeMap Try.prog
  go_enter Try.func10, Try.ntmps10
  go_wp2
  go_ret
  have s1 : (w.alloc (.map #[] 0)).heap.size = w.heap.size + 1 := by show (w.heap.push _).size = _; rw [Array.size_push]
  have s2 : ((w.alloc (.map #[] 0)).alloc (.map #[] 0)).heap.size = w.heap.size + 1 + 1 := by show ((w.alloc (.map #[] 0)).heap.push _).size = _; rw [Array.size_push, s1]
  have n1 := heap_alloc_new w (.map #[] 0)
  have n2 := heap_alloc_new (w.alloc (.map #[] 0)) (.map #[] 0)
  have n3 := heap_alloc_new ((w.alloc (.map #[] 0)).alloc (.map #[] 0)) (.cells #[.int .i64 most, .int .i64 1, .map (some w.heap.size), .map (some (w.heap.size + 1))] 51)
  have g1 : Grows w (w.alloc (.map #[] 0)) := (Below.refl w.heap.size w).alloc (Nat.le_refl _) _
  have g2 : Grows (w.alloc (.map #[] 0)) ((w.alloc (.map #[] 0)).alloc (.map #[] 0)) := (Below.refl _ _).alloc (Nat.le_refl _) _
  have g3 : Grows ((w.alloc (.map #[] 0)).alloc (.map #[] 0)) (((w.alloc (.map #[] 0)).alloc (.map #[] 0)).alloc (.cells #[.int .i64 most, .int .i64 1, .map (some w.heap.size), .map (some (w.heap.size + 1))] 51)) := (Below.refl _ _).alloc (Nat.le_refl _) _
  rw [s1] at n2
  rw [s2] at n3
  refine ⟨_, rfl, w.heap.size, w.heap.size + 1, ⟨n3, ?_, ?_, fun x hx => (by cases hx), List.Pairwise.nil, by omega⟩, Grows.trans (Grows.trans g1 g2) g3, ?_⟩
  · exact IMap.made ((g3.block _ (by rw [s2]; omega)).trans ((g2.block _ (by rw [s1]; omega)).trans n1))
  · exact IMap.made ((g3.block _ (by rw [s2]; omega)).trans n2)
  · rintro k (rfl | rfl | rfl | ⟨x, hx, _⟩)
    · omega
    · omega
    · omega
    · cases hx
end Go.Proofs.Ytdfjacpfmjgfiaa
