/-
  Layer 17: a new table; what a table tells.
-/
import Derived.Test.YtdfjacpfmjgfiaaOpen
namespace Go.Proofs.Ytdfjacpfmjgfiaa
set_option linter.unusedVariables false
set_option linter.unusedSimpArgs false
open Go.Shelf Go.RowKit Go.Proofs.YtdfjacpfmjgfiaaW.PrintWords Go.Proofs.YtdfjacpfmjgfiaaW.PrintMore
attribute [local go_sem] max2_int
theorem new_tab (w : World) (most : Int) (h : 1 ≤ most ∧ most ≤ 1024) : Calls Try.prog 10 #[.int .i64 most] w fun e w' => ∃ t, e = .returned (.pointer (some ⟨t, 0, none⟩)) ∧ TabA w' (fun k => w.heap.size ≤ k) t most 1 [] ∧ Grows w w' := by
  refine (new_some w most h).mono ?_
  rintro e w' ⟨t, rfl, S, P, hT, hg, ho⟩
  exact ⟨t, rfl, ⟨S, P, [], [], ⟨hT.blk, hT.segs, hT.pins, fun x hx => (by cases hx), List.Pairwise.nil, hT.SP⟩, rfl, ⟨List.nodup_nil, fun n => rfl⟩, HOk.nil 1, ho⟩, hg⟩
section
variable {W : World} {O : Nat → Prop} {t : Nat} {most next : Int} {hl : HL}
theorem TabA.tight (h : TabA W O t most next hl) : TabA W (fun k => O k ∧ k < W.heap.size) t most next hl := by
  obtain ⟨S, P, hs, ps, h1, h2, h3, h4, h5⟩ := h
  exact ⟨S, P, hs, ps, h1, h2, h3, h4, fun k hk => ⟨h5 k hk, h1.lt hk⟩⟩
theorem is_tab (h : TabA W O t most next hl) (n : Int) : Calls Try.prog 21 #[.pointer (some ⟨t, 0, none⟩), .int .i64 n] W fun e w' => e = .returned (.bool (getL hl n).isSome) ∧ w' = W := by
  obtain ⟨S, P, hs, ps, h1, h2, h3, h4, h5⟩ := h
  have := is_calls h1 n
  rw [← h2, hdOf_abs, Option.isSome_map]
  exact this
theorem pinned_tab (h : TabA W O t most next hl) (n : Int) : Calls Try.prog 26 #[.pointer (some ⟨t, 0, none⟩), .int .i64 n] W fun e w' => e = .returned (.bool (decide (0 < cnt hl n))) ∧ w' = W := by
  obtain ⟨S, P, hs, ps, h1, h2, h3, h4, h5⟩ := h
  have := pinned_calls h1 n
  rw [h3.cnt] at this
  have e : decide (0 < ((cnt hl n : Nat) : Int)) = decide (0 < cnt hl n) := by rw [Bool.eq_iff_iff]; simp
  rw [e] at this
  exact this
theorem many_tab (h : TabA W O t most next hl) : Calls Try.prog 19 #[.pointer (some ⟨t, 0, none⟩)] W fun e w' => e = .returned (.int .i64 hl.length) ∧ w' = W := by
  obtain ⟨S, P, hs, ps, h1, h2, h3, h4, h5⟩ := h
  have := many_calls h1
  have e : hs.length = hl.length := by rw [← h2]; simp [absH]
  rw [e] at this
  exact this
theorem of_tab (h : TabA W O t most next hl) (n : Int) (hb : ∀ x ∈ hl, x.2.length ≤ 1000000) :
    Calls Try.prog 24 #[.pointer (some ⟨t, 0, none⟩), .int .i64 n] W fun e w' => ∃ v', e = .returned v' ∧ w'.ownsRow W.heap.size 3 1 v' ((getL hl n).getD []).length (nums .i64 ((getL hl n).getD [])) ∧ Grows W w' := by
  obtain ⟨S, P, hs, ps, h1, h2, h3, h4, h5⟩ := h
  have := of_calls h1 n (fun x hx => hb (x.key, x.l) (by rw [← h2]; exact List.mem_map_of_mem hx))
  rw [← h2, hdOf_abs]
  exact this
theorem pin_quiet (h : TabA W O t most next hl) (k n : Int) (hk : getL hl k = none) :
    Calls Try.prog 13 #[.pointer (some ⟨t, 0, none⟩), .int .i64 k, .int .i64 n] W fun e w' => e = .returned (.bool false) ∧ w' = W := by
  obtain ⟨S, P, hs, ps, h1, h2, h3, h4, h5⟩ := h
  have c2 := h1.c2
  have hlk := run_lookok_i Try.underlying48 Try.underlying3 zero55 h1.segs k
  have hd : hdOf hs k = none := by
    rw [← h2, hdOf_abs] at hk
    cases hd : hdOf hs k with
    | none => rfl
    | some x => rw [hd] at hk; cases hk
  rw [look_S, hd] at hlk
  simp only [Option.map_none, Option.getD_none, Option.isSome_none] at hlk
  clear h1 h2 h3 h4 h5 hd hk
  go_enter Try.func13, Try.ntmps13
  go_wp2
  go_ret
  exact ⟨rfl, rfl⟩
theorem close_quiet (h : TabA W O t most next hl) (k : Int) (hk : getL hl k = none) :
    Calls Try.prog 15 #[.pointer (some ⟨t, 0, none⟩), .int .i64 k] W fun e w' => e = .returned (.bool false) ∧ w' = W := by
  obtain ⟨S, P, hs, ps, h1, h2, h3, h4, h5⟩ := h
  have c2 := h1.c2
  have hlk := run_lookok_i Try.underlying48 Try.underlying3 zero55 h1.segs k
  have hd : hdOf hs k = none := by
    rw [← h2, hdOf_abs] at hk
    cases hd : hdOf hs k with
    | none => rfl
    | some x => rw [hd] at hk; cases hk
  rw [look_S, hd] at hlk
  simp only [Option.map_none, Option.getD_none, Option.isSome_none] at hlk
  clear h1 h2 h3 h4 h5 hd hk
  go_enter Try.func15, Try.ntmps15
  go_wp2
  go_ret
  exact ⟨rfl, rfl⟩
end
end Go.Proofs.Ytdfjacpfmjgfiaa
