/-
  Layer 17: slices.Clone of an own row of numbers.
-/
import Derived.Test.YtdfjacpfmjgfiaaInsert
import Derived.Lib.LazyBuf
namespace Go.Proofs.Ytdfjacpfmjgfiaa
set_option linter.unusedVariables false
set_option linter.unusedSimpArgs false
open Go.RowKit Go.Proofs.YtdfjacpfmjgfiaaW.PrintWords Go.Proofs.YtdfjacpfmjgfiaaW.PrintMore
attribute [local go_sem] max2_int
theorem own_empty3 {W : World} {g : Nat} (h : W.heap[g]? = some (.cells #[] 3 (0, 0))) : W.ownsRow g 3 1 (.slice (some ⟨g, 0, none⟩) 0 0) ([] : List Int).length (nums .i64 []) :=
  ⟨rfl, .inr ⟨g, 0, _, rfl, Nat.le_refl _, h, Nat.le_refl _, by decide, rfl, rfl⟩⟩
theorem grown_own {W W1 W2 : World} {e sz n : Nat} {v : Value} {xs : List Value} (h : Grows W W1) (hk : W1.grownBy W2 v.ownBlock) (ho : W1.ownsRow W.heap.size e sz v n xs) : Grows W W2 :=
  ⟨hk.os.trans h.os, hk.tape.trans h.tape, hk.output.trans h.output, Nat.le_trans h.size hk.size, fun k hlt => (hk.block k (Nat.lt_of_lt_of_le hlt h.size) (fun e1 => by have := own_base ho k e1.symm; omega)).trans (h.block k hlt)⟩
set_option maxRecDepth 100000 in
set_option maxHeartbeats 1000000 in
theorem clone_calls {W : World} {B : Nat} {v : Value} {xs : List Int} (ho : W.ownsRow B 3 1 v xs.length (nums .i64 xs)) (hl : xs.length ≤ 1000000) :
    Calls Try.prog 35 #[v] W fun e w' => ∃ v', e = .returned v' ∧ w'.ownsRow W.heap.size 3 1 v' xs.length (nums .i64 xs) ∧ Grows W w' := by
  have q29 : ∀ (w : World) (a : Option Addr) (n c : Nat), (binOp .eql 29 (.slice a n c) (.slice none 0 0)).run Try.prog w = .ok (.bool a.isNone) w := fun w a n c => Go.run_eql_slice_nil w _ _ a n c Try.underlying29
  rcases ho.2 with ⟨rfl, h0⟩ | ⟨b, cap, cur, rfl, hb, hh, hc, _⟩
  · obtain rfl : xs = [] := List.eq_nil_of_length_eq_zero h0
    go_enter Try.func35, Try.ntmps35
    go_wp2
    go_ret
    exact ⟨_, rfl, World.ownsRow_nil _ _ _ _, Below.refl _ _⟩
  · have he0 : Grows W (W.alloc (.cells #[] 3)) := (Below.refl W.heap.size W).alloc (Nat.le_refl _) (.cells #[] 3)
    have hr0 := own_reads' (own_grows ho he0)
    obtain ⟨v1, w1, hr, ho1, hg1, hloc⟩ := ints_run (t := 29) (u := 29) (ty := 29) Try.underlying29 Try.underlying29 W.heap.size (.slice (some ⟨W.heap.size, 0, none⟩) 0 0) [] xs (some ⟨b, 0, none⟩) xs.length cap (own_empty3 (heap_alloc_new W (.cells #[] 3))) hr0 he0.size (by simp; omega)
    have HG := Aside0.mk (grown_own he0 hg1 (own_empty3 (heap_alloc_new W (.cells #[] 3))))
    rw [List.nil_append] at ho1
    have HO := Aside0.mk ho1
    clear ho1 hg1 hloc hr0 he0 ho hh
    go_enter Try.func35, Try.ntmps35
    go_wp2_with (at_builtin; refine wpList_appendE (.tmp 5) (.tmp 6) 29 rfl rfl rfl rfl ⟨_, _, hr, ?_⟩)
    go_ret
    exact ⟨_, rfl, HO.out, HG.out⟩
end Go.Proofs.Ytdfjacpfmjgfiaa
