/-
  Layer 17: slices.Insert of one number into an own row of numbers.
-/
import Derived.Test.YtdfjacpfmjgfiaaLoose
import Derived.Test.YtdfjacpfmjgfiaaWZeros
namespace Go.Proofs.Ytdfjacpfmjgfiaa
set_option linter.unusedVariables false
set_option linter.unusedSimpArgs false
open Go.RowKit Go.Proofs.YtdfjacpfmjgfiaaW.PrintWords Go.Proofs.YtdfjacpfmjgfiaaW.PrintMore
attribute [local go_sem] max2_int
theorem info3' : (Try.prog.info? 3).map (fun i => (i.zero, i.size, i.bytes)) = some (some (.int .i64 0), 1, 8) := by kernel_rfl
theorem ints_run {t u ty : TypeId} (ht : Try.prog.underlying t = some (.slice 3)) (hu : Try.prog.underlying u = some (.slice 3)) {W : World} (base : Nat) (v : Value) (xs ys : List Int) (A : Option Addr) (m c : Nat) (HO : W.ownsRow base 3 1 v xs.length (nums .i64 xs)) (HR : ReadsInt W .i64 A m ys) (hbase : base ≤ W.heap.size) (hl : (xs.length + m) * 8 ≤ 140737488355328) :
    ∃ v1 w1, (Builtin.append_ #[t, u] ty #[v, .slice A m c]).run Try.prog W = .ok v1 w1 ∧ w1.ownsRow base 3 1 v1 (xs ++ ys).length (nums .i64 (xs ++ ys)) ∧ W.grownBy w1 v.ownBlock ∧ (v1.ownBlock = v.ownBlock ∨ v1.ownBlock = some W.heap.size) := by
  obtain ⟨b0, c0, ev, _⟩ := own_slice HO
  have hty : (Builtin.append_ #[t, u] ty #[v, .slice A m c]).run Try.prog W = (Builtin.append_ #[t, t] ty #[v, .slice A m c]).run Try.prog W := by rw [ev]; exact append_types ht hu _ _ _ _ _
  rw [hty]
  clear hty ev
  obtain ⟨i0, hi, hz0, hz1, hz2⟩ := parts3 info3'
  have hm : ys.length = m := HR.1
  have hl2 : (xs ++ ys).length = xs.length + m := by rw [List.length_append, hm]
  have hn2 : nums .i64 (xs ++ ys) = nums .i64 xs ++ nums .i64 ys := by simp [nums]
  rcases A with _ | ad
  · have h0 : m = 0 := by
      rcases Nat.eq_zero_or_pos m with h0 | h0
      · exact h0
      · obtain ⟨ad, h, _⟩ := HR.2.2 h0
        cases h
    subst h0
    obtain rfl : ys = [] := List.eq_nil_of_length_eq_zero hm
    refine ⟨v, W, ?_, by simpa using HO, World.grownBy.refl W _, .inl rfl⟩
    rcases HO.2 with ⟨rfl, hn⟩ | ⟨g, cap, cur, rfl, _, _, hnc, _⟩
    · simp [Builtin.append_, run_underlying ht, sizeOf, typeInfo, hi, Builtin.lenOf, Builtin.firstCells]
    · simp [Builtin.append_, run_underlying ht, sizeOf, typeInfo, hi, Builtin.lenOf, Builtin.firstCells, hnc, storeCells]
  · have hcells : ∀ j u, (nums .i64 ys)[j]? = some u → W.cell? (ad.add j) = some u := by
      intro j u hu
      have hj : j < ys.length := by
        rcases Nat.lt_or_ge j ys.length with h | h
        · exact h
        · simp [nums, List.getElem?_eq_none h] at hu
      obtain ⟨ad', h', hc⟩ := HR.2.2 (by omega)
      injection h' with h'
      subst h'
      have := hc j (by omega)
      simp [nums, List.getElem?_eq_getElem hj] at hu
      subst hu
      rw [this]
      simp [List.getD_eq_getElem?_getD, List.getElem?_eq_getElem hj]
    obtain ⟨v1, w1, hr, h2, h3, _, h5⟩ := run_append_own_at (P := Try.prog) W base t ty 3 i0 (.int .i64 0) 1 8 ht hi hz0 hz1 hz2 rfl (by omega) v xs.length (nums .i64 xs) HO ad m c (nums .i64 ys) (by simp [nums, hm]) hcells
      (by intro u hu; simp only [nums, List.mem_map] at hu; obtain ⟨q, _, rfl⟩ := hu; rfl) (by simp only [maxLen]; omega) (by omega) hbase
    refine ⟨v1, w1, hr, ?_, h3, h5⟩
    rw [hl2, hn2]; exact h2
/-- What Insert does of an own row. -/
def InsPost (W : World) (B : Nat) (v : Value) (xs' : List Int) (e : Ending) (w' : World) : Prop :=
  ∃ v', e = .returned v' ∧ w'.ownsRow B 3 1 v' xs'.length (nums .i64 xs') ∧ W.grownBy w' v.ownBlock ∧ (v'.ownBlock = v.ownBlock ∨ ∃ b, W.heap.size ≤ b ∧ v'.ownBlock = some b)
set_option maxRecDepth 100000 in
set_option maxHeartbeats 1000000 in
theorem insert_end {W : World} {B : Nat} {v : Value} {xs : List Int} (ho : W.ownsRow B 3 1 v xs.length (nums .i64 xs)) (hB : B ≤ W.heap.size) (g : Nat) (n : Int) (hg : W.heap[g]? = some (.cells #[.int .i64 n] 3 (0, 0))) (hl : xs.length ≤ 100000) :
    Calls Try.prog 31 #[v, .int .i64 xs.length, .slice (some ⟨g, 0, none⟩) 1 1] W (InsPost W B v (xs ++ [n])) := by
  have hrd : ReadsInt W .i64 (some ⟨g, 0, none⟩) 1 [n] := ⟨rfl, by decide, fun _ => ⟨_, rfl, fun j hj => by
    obtain rfl : j = 0 := by omega
    exact cell_of_row W g 0 _ 3 (0, 0) hg⟩⟩
  obtain ⟨v1, w1, hr, ho1, hg1, hloc⟩ := ints_run (t := 29) (u := 29) (ty := 29) Try.underlying29 Try.underlying29 B v xs [n] (some ⟨g, 0, none⟩) 1 1 ho hrd hB (by omega)
  obtain ⟨A, c, rfl, hc⟩ := own_slice ho
  have HO1 := Aside0.mk ho1
  have HG1 := Aside0.mk hg1
  have HL1 := Aside0.mk hloc
  have h1 : (xs.length : Int) ≤ (c : Int) := by omega
  have h2 : (0 : Int) ≤ (xs.length : Int) := by omega
  clear hrd ho ho1 hg1 hloc hg
  by_cases hcc : c = xs.length
  · subst hcc
    go_enter Try.func31, Try.ntmps31
    go_wp2_with (at_builtin; refine wpList_appendE (.tmp 23) (.tmp 24) 29 rfl rfl rfl rfl ⟨_, _, hr, ?_⟩)
    go_ret
    exact ⟨v1, rfl, HO1.out, HG1.out, HL1.out.imp id fun e => ⟨_, Nat.le_refl _, e⟩⟩
  · go_enter Try.func31, Try.ntmps31
    go_wp2_with (at_builtin; refine wpList_appendE (.tmp 23) (.tmp 24) 29 rfl rfl rfl rfl ⟨_, _, hr, ?_⟩)
    go_ret
    exact ⟨v1, rfl, HO1.out, HG1.out, HL1.out.imp id fun e => ⟨_, Nat.le_refl _, e⟩⟩
/-- append(s[:i], make([]int, m)...) where there is no room. -/
theorem zeros_grow {W : World} {b i cap : Nat} {cur : Array Value} (hb : W.heap[b]? = some (.cells cur 3 (0, 0))) (hcs : cur.size = cap) (m : Nat) (hi : i ≤ cap) (hg : cap < i + m) (hm : 0 < m) (hl : i + m ≤ 1000000) :
    ∃ (cap' : Nat) (cs : Array Value) (w' : World), (Builtin.append_ #[29, 3] 29 #[.slice (some ⟨b, 0, none⟩) i cap, .int .i64 m]).run Try.prog W = .ok (.slice (some ⟨W.heap.size, 0, none⟩) (i + m) cap') w' ∧ i + m ≤ cap' ∧ cap' ≤ maxLen ∧ cs.size = cap' ∧ cs.toList.take (i + m) = cur.toList.take i ++ List.replicate m (.int .i64 0) ∧ w'.heap[W.heap.size]? = some (.cells cs 3 (0, 0)) ∧ Grows W w' := by
  obtain ⟨i0, hi0, hz0, hz1, hz2⟩ := parts3 info3'
  have hw : IntKind.i64.wrap (m : Int) = m := by rw [IntKind.wrap_i64]; omega
  have hneg : ¬ ((m : Int) < 0) := by omega
  have hbig : ¬ (281474976710656 < (m : Int) * (i0.bytes : Int)) := by rw [hz2]; omega
  have hn : ¬ (i + m ≤ cap) := by omega
  have h63 : ¬ (9223372036854775807 < ((i : Int) + (m : Int))) := by omega
  have hfit := growslice_fits (bytes := 8) hg (show (i + m) * 8 ≤ 140737488355328 by omega)
  have h48 : ¬ (281474976710656 < Builtin.nextslicecap (i + m) cap * i0.bytes) := by rw [hz2]; omega
  have hmz : ¬ (m * i0.size = 0) := by rw [hz1]; omega
  have hmz2 : ¬ m = 0 := by omega
  have hlen : (cur.toList.take i).length = i * 1 := by rw [List.length_take, Array.length_toList, hcs]; omega
  have holds : ∀ j u, (cur.toList.take i)[j]? = some u → W.drew.cell? ((⟨b, 0, none⟩ : Addr).add j) = some u := by
    intro j u hu
    rw [List.getElem?_take] at hu
    split at hu
    · have hadd : (⟨b, 0, none⟩ : Addr).add j = ⟨b, j, none⟩ := by unfold Addr.add; split <;> simp_all
      rw [hadd]
      exact (cell_of_row W b j cur 3 (0, 0) hb).trans (by rw [← Array.getElem?_toList]; exact hu)
    · cases hu
  have hfo := run_firstCells_some (P := Try.prog) W.drew 1 i _ i cap (cur.toList.take i) hlen (by simpa using holds)
  rw [← hz1] at hfo
  refine ⟨grownCap W (i + m) cap 3, (cur.toList.take i).toArray ++ Builtin.zeroCells (Value.int .i64 0).cells m ++ Builtin.zeroCells (Value.int .i64 0).cells (grownCap W (i + m) cap 3 - (i + m)), _, ?_, grownCap_ge W (i + m) cap 3, grownCap_le_maxLen W (i + m) cap 3 (by simp only [maxLen]; omega), ?_, ?_, heap_alloc_new W.drew _, ?_⟩
  · simp [Builtin.append_, run_underlying Try.underlying29, run_underlying Try.underlying3, sizeOf, typeInfo, zeroValue, hi0, hz0, asInt, asIntOf, hw, hneg, hbig, hn, h63, h48, Question.forced, hfo, newRow, grownCap, hmz, hmz2]
  · have := grownCap_ge W (i + m) cap 3
    simp only [Array.size_append, List.size_toArray, size_zeroCells, hlen, Value.cells]
    simp
    omega
  · have hz : (Builtin.zeroCells (Value.int .i64 0).cells m).toList = List.replicate m (.int .i64 0) := by
      rw [← toList_madeCells_one (.int .i64 0) m]; simp [Builtin.zeroCells, madeCells, Value.cells]
    simp only [Array.toList_append, hz]
    rw [List.take_left' (by rw [List.length_append, hlen, List.length_replicate]; omega)]
  · exact ⟨rfl, rfl, rfl, by show W.heap.size ≤ (W.heap.push _).size; rw [Array.size_push]; exact Nat.le_succ _, fun k hk => heap_alloc_old W.drew _ hk⟩
end Go.Proofs.Ytdfjacpfmjgfiaa
