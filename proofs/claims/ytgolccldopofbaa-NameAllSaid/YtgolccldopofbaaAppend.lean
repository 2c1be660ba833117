/-
  append's run, at a row of the call's own.
-/
import Derived.Test.YtgolccldopofbaaSegs
import Derived.Deep.AppendLies
namespace Go.Proofs.Ytgolccldopofbaa
set_option linter.unusedVariables false
set_option linter.unusedSimpArgs false
open Go.RowKit Go.Proofs.YtgolccldopofbaaW.PrintWords

theorem append_run {W : World} (base : Nat) (v : Value) (xs ys : List Int) (A : Option Addr) (m c : Nat) (ty : TypeId) (HO : W.ownsRow base 3 1 v xs.length (nums .i64 xs)) (HR : ReadsInt W .i64 A m ys) (hbase : base ≤ W.heap.size) (hl : (xs.length + m) * 8 ≤ 140737488355328) :
    ∃ v1 w1, (Builtin.append_ #[28, 28] ty #[v, .slice A m c]).run Try.prog W = .ok v1 w1 ∧ w1.ownsRow base 3 1 v1 (xs ++ ys).length (nums .i64 (xs ++ ys)) ∧ W.grownBy w1 v.ownBlock ∧ (v1.ownBlock = v.ownBlock ∨ v1.ownBlock = some W.heap.size) := by
  obtain ⟨i0, hi, hz0, hz1, hz2⟩ := info_parts info3
  have ht : Try.prog.underlying 28 = some (.slice 3) := Try.underlying28
  have hm : ys.length = m := HR.1
  have hl2 : (xs ++ ys).length = xs.length + m := by rw [List.length_append, hm]
  have hn2 : nums .i64 (xs ++ ys) = nums .i64 xs ++ nums .i64 ys := by simp [nums]
  rcases A with _ | ad
  · have h0 : m = 0 := by
      rcases Nat.eq_zero_or_pos m with h0 | h0
      · exact h0
      · obtain ⟨ad, h, _⟩ := HR.2.2 h0
        cases h
    subst h0
    obtain rfl : ys = [] := List.eq_nil_of_length_eq_zero hm
    refine ⟨v, W, ?_, by simpa using HO, World.grownBy.refl W _, .inl rfl⟩
    rcases HO.2 with ⟨rfl, hn⟩ | ⟨g, cap, cur, rfl, _, _, hnc, _⟩
    · simp [Builtin.append_, run_underlying ht, sizeOf, typeInfo, hi, Builtin.lenOf, Builtin.firstCells]
    · simp [Builtin.append_, run_underlying ht, sizeOf, typeInfo, hi, Builtin.lenOf, Builtin.firstCells, hnc, storeCells]
  · have hcells : ∀ j u, (nums .i64 ys)[j]? = some u → W.cell? (ad.add j) = some u := by
      intro j u hu
      have hj : j < ys.length := by
        rcases Nat.lt_or_ge j ys.length with h | h
        · exact h
        · simp [nums, List.getElem?_eq_none h] at hu
      obtain ⟨ad', h', hc⟩ := HR.2.2 (by omega)
      injection h' with h'
      subst h'
      have := hc j (by omega)
      simp [nums, List.getElem?_eq_getElem hj] at hu
      subst hu
      rw [this]
      simp [List.getD_eq_getElem?_getD, List.getElem?_eq_getElem hj]
    obtain ⟨v1, w1, hr, h2, h3, _, h5⟩ := run_append_own_at (P := Try.prog) W base 28 ty 3 i0 (.int .i64 0) 1 8 ht hi hz0 hz1 hz2 rfl (by omega) v xs.length (nums .i64 xs) HO ad m c (nums .i64 ys) (by simp [nums, hm]) hcells
      (by intro u hu; simp only [nums, List.mem_map] at hu; obtain ⟨q, _, rfl⟩ := hu; rfl) (by simp only [maxLen]; omega) hl hbase
    refine ⟨v1, w1, hr, ?_, h3, h5⟩
    rw [hl2, hn2]; exact h2

/-- append, at a step of a region that draws: onto a row of one's own. -/
theorem step_app {ops : Array Oper} {o : Oper} {a : Act} {W : World} {K : Act → World → Prop} {Q : Exit → Act → World → Prop} {E : Prop} (w0 : World) (s x : Operand) (hgd : o.guard = none)
    (ho : o.op = .call { callee := .builtin .append, args := #[s, x], argTypes := #[28, 28] }) (xs ys : List Int) {v : Value} {A : Option Addr} {m c : Nat} (hs : a.eval s = v) (hx : a.eval x = .slice A m c)
    (HO : W.ownsRow w0.heap.size 3 1 v xs.length (nums .i64 xs)) (HR : ReadsInt W .i64 A m ys) (HB : Below w0.heap.size w0 W) (hl : (xs.length + m) * 8 ≤ 140737488355328)
    (h : ∀ v1 w1, w1.ownsRow w0.heap.size 3 1 v1 (xs ++ ys).length (nums .i64 (xs ++ ys)) → Below w0.heap.size w0 w1 → W.grownBy w1 v.ownBlock → K (a.put o.dst v1) w1) :
    if Region.wanted o (yielded ops a.tmps) = true then Oper.wp Try.prog o a W K Q else E := by
  have hw : Region.wanted o (yielded ops a.tmps) = true := by simp [Region.wanted, hgd]
  rw [if_pos hw]
  obtain ⟨v1, w1, hr, h2, h3, h4⟩ := append_run (W := W) w0.heap.size v xs ys A m c o.type HO HR HB.size hl
  unfold Oper.wp execOp
  simp only [ho, resolve, invoke, builtin, Sem.run_bind, Sem.run_pure, Result.andThen_ok, List.map_toArray, List.map_cons, List.map_nil, hs, hx, hr]
  exact h v1 w1 h2 (pw_below_grown HB v.ownBlock HB.size h3 (fun k hk => (HO.lt k hk).1)) h3
theorem reads_blk {W : World} {g : Nat} {n : Int} (h : W.heap[g]? = some (.cells #[.int .i64 n] 3 (0, 0))) : ReadsInt W .i64 (some ⟨g, 0, none⟩) 1 [n] := by
  refine ⟨rfl, by omega, fun _ => ⟨_, rfl, fun j hj => ?_⟩⟩
  obtain rfl : j = 0 := by omega
  have := World.news_of_block h 0 (.int .i64 n) (by simp)
  simpa using this
theorem lit_own {W : World} (w0 : World) (h : w0.heap.size ≤ W.heap.size) : (W.alloc (.cells #[] 3)).ownsRow w0.heap.size 3 1 (.slice (some ⟨W.heap.size, 0, none⟩) 0 0) 0 [] :=
  World.ownsRow_made W #[] 0 h (by simp [maxLen]) (by simp)
theorem lit_own3 (w1 : World) (o : Obj) : ((w1.drew.alloc o).alloc (.cells #[] 3)).ownsRow w1.heap.size 3 1 (.slice (some ⟨w1.heap.size + 1, 0, none⟩) 0 0) 0 [] := by
  have h := lit_own (W := w1.drew.alloc o) w1 (by rw [World.size_alloc]; exact Nat.le_succ _)
  rwa [show (w1.drew.alloc o).heap.size = w1.heap.size + 1 from World.size_alloc _ _] at h
theorem two_a {w1 W4 : World} {na : Int} (hg : ((w1.drew.alloc (.cells #[] 3)).alloc (.cells #[.int .i64 na] 3)).grownBy W4 (some w1.heap.size)) : ReadsInt W4 .i64 (some ⟨w1.heap.size + 1, 0, none⟩) 1 [na] := by
  have h1 : (w1.drew.alloc (.cells #[] 3)).heap.size = w1.heap.size + 1 := World.size_alloc _ _
  refine reads_blk ((hg.block _ ?_ ?_).trans ?_)
  · rw [World.size_alloc, h1]; omega
  · simp
  · rw [← h1]; exact heap_alloc_new _ _
theorem two_b {w1 W4 : World} {na : Int} (hg : ((w1.drew.alloc (.cells #[.int .i64 na] 3)).alloc (.cells #[] 3)).grownBy W4 (some (w1.heap.size + 1))) : ReadsInt W4 .i64 (some ⟨w1.heap.size, 0, none⟩) 1 [na] := by
  have h1 : (w1.drew.alloc (.cells #[.int .i64 na] 3)).heap.size = w1.heap.size + 1 := World.size_alloc _ _
  refine reads_blk ((hg.block _ ?_ ?_).trans ?_)
  · rw [World.size_alloc, h1]; omega
  · simp
  · rw [heap_alloc_old _ _ (show w1.heap.size < (w1.drew.alloc (.cells #[.int .i64 na] 3)).heap.size by rw [h1]; omega)]; exact heap_alloc_new w1.drew _
end Go.Proofs.Ytgolccldopofbaa
