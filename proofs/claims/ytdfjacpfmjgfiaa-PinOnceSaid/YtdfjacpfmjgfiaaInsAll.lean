/-
  Layer 17: slices.Insert of one number into an own row of numbers, anywhere: off the library's contracts.
-/
import Derived.Ground.Names2Prog
import Derived.Shelf.Spec.SlicesInsert
import Derived.Shelf.Spec.SlicesInsertGrow
import Derived.Test.YtdfjacpfmjgfiaaNew
import Derived.Test.YtdfjacpfmjgfiaaSplice
namespace Go.Proofs.Ytdfjacpfmjgfiaa
set_option linter.unusedVariables false
set_option linter.unusedSimpArgs false
open Go.Shelf Go.RowKit Go.Proofs.YtdfjacpfmjgfiaaW.PrintWords Go.Proofs.YtdfjacpfmjgfiaaW.PrintMore
def laysIns_ren : Go.Shelf.Ren := ⟨fun | 21 => 31 | 27 => 38 | 28 => 39 | 35 => 41 | 39 => 42 | n => n, fun | 22 => 29 | 3 => 3 | 4 => 4 | 0 => 0 | n => n, fun | n => n⟩
theorem laysIns : Go.Proofs.Lays2.n21 Try.prog laysIns_ren := {
  mixed := by kernel_rfl
  f21 := Try.func31.trans (congrArg some (by kernel_rfl))
  f27 := Try.func38.trans (congrArg some (by kernel_rfl))
  f28 := Try.func39.trans (congrArg some (by kernel_rfl))
  f35 := Try.func41.trans (congrArg some (by kernel_rfl))
  f39 := Try.func42.trans (congrArg some (by kernel_rfl))
  t0 := Try.underlying0
  a0 := Try.isAgg0
  z0 := Try.sizeOf0
  v0 := Try.zeroValue0
  t3 := Try.underlying3
  a3 := Try.isAgg3
  z3 := Try.sizeOf3
  v3 := Try.zeroValue3
  t4 := Try.underlying4
  a4 := Try.isAgg4
  z4 := Try.sizeOf4
  v4 := Try.zeroValue4
  t22 := Try.underlying29
  a22 := Try.isAgg29
  z22 := Try.sizeOf29
  v22 := Try.zeroValue29
  i3 := by kernel_rfl }
theorem grown_of {w w' : World} (h : Grows w w') (r : Option Nat) : w.grownBy w' r := ⟨h.os, h.tape, h.output, h.size, fun k hk _ => h.block k hk⟩
theorem take_len {α : Type} {l : List α} {n : Nat} {xs : List α} (h : l.take n = xs) (hn : n ≤ l.length) : xs.length = n := by rw [← h, List.length_take]; omega
theorem splice_in {α : Type} (A D R : List α) (x : α) (i : Nat) (hA : i + 1 ≤ A.length) :
    ((A.take (i + 1) ++ D ++ R).take i ++ [x] ++ (A.take (i + 1) ++ D ++ R).drop (i + 1)).take (i + 1 + D.length) = A.take i ++ [x] ++ D := by
  have h1 : (A.take (i + 1) ++ D ++ R).take i = A.take i := by
    rw [List.append_assoc, List.take_append_of_le_length (by rw [List.length_take]; omega), List.take_take, Nat.min_eq_left (by omega)]
  have h2 : (A.take (i + 1) ++ D ++ R).drop (i + 1) = D ++ R := by
    rw [List.append_assoc]; exact List.drop_left' (by rw [List.length_take]; omega)
  rw [h1, h2, ← List.append_assoc]
  exact List.take_left' (by simp only [List.length_append, List.length_take, List.length_cons, List.length_nil]; omega)
theorem splice_new {α : Type} (A Z D R R2 : List α) (x : α) (i : Nat) (hA : A.length = i) :
    (((A ++ Z ++ R).take i ++ [x] ++ (A ++ Z ++ R).drop (i + 1)).take (i + 1) ++ D ++ R2).take (i + 1 + D.length) = A ++ [x] ++ D := by
  have h1 : (A ++ Z ++ R).take i = A := by rw [List.append_assoc]; exact List.take_left' hA
  have h2 : (A ++ [x]).length = i + 1 := by rw [List.length_append, hA]; rfl
  rw [h1, List.take_left' h2]
  exact List.take_left' (by rw [List.length_append, h2])
theorem insert_calls {W : World} {B : Nat} {v : Value} {xs : List Int} (ho : W.ownsRow B 3 1 v xs.length (nums .i64 xs)) (hB : B ≤ W.heap.size) (g : Nat) (n : Int) (hg : W.heap[g]? = some (.cells #[.int .i64 n] 3 (0, 0))) (hne : v.ownBlock ≠ some g) (hl : xs.length ≤ 100000) (i : Nat) (hi : i ≤ xs.length) :
    Calls Try.prog 31 #[v, .int .i64 i, .slice (some ⟨g, 0, none⟩) 1 1] W (InsPost W B v (xs.take i ++ n :: xs.drop i)) := by
  by_cases hin : i = xs.length
  · subst hin
    rw [List.take_length, List.drop_length]
    exact insert_end ho hB g n hg hl
  have hi2 : i < xs.length := by omega
  rcases ho.2 with ⟨_, h0⟩ | ⟨b, cap, cur, rfl, hBb, hb, hc, hcm, hcs, hcur⟩
  · omega
  have hgb : g ≠ b := fun e => hne (by rw [e]; rfl)
  have hcs : cur.size = cap := by omega
  rw [Nat.mul_one] at hcur
  have hnl : (nums .i64 xs).length = xs.length := by simp [nums]
  have hget : ∀ (j : Nat) (u : Value), (nums .i64 xs)[j]? = some u → cur[j]? = some u := fun j u hu => by
    rw [← hcur, List.getElem?_take] at hu
    split at hu
    · rw [← Array.getElem?_toList]; exact hu
    · cases hu
  have hc1 : ∀ (j : Nat) (u : Value), (nums .i64 xs)[j]? = some u → W.cell? ⟨b, 0 + j, none⟩ = some u := fun j u hu => by
    rw [Nat.zero_add]
    exact (cell_of_row W b j cur 3 (0, 0) hb).trans (hget j u hu)
  have hv1 : ∀ (j : Nat) (u : Value), ([.int .i64 n] : List Value)[j]? = some u → W.cell? ⟨g, 0 + j, none⟩ = some u := fun j u hu => by
    rw [Nat.zero_add]
    exact (cell_of_row W g j _ 3 (0, 0) hg).trans (by rw [← Array.getElem?_toList]; exact hu)
  have h1c : ∀ u ∈ nums .i64 xs, u.oneCell' = true := fun u hu => by simp only [nums, List.mem_map] at hu; obtain ⟨q, _, rfl⟩ := hu; rfl
  have h1v : ∀ u ∈ ([.int .i64 n] : List Value), u.oneCell' = true := fun u hu => by
    obtain rfl := List.mem_singleton.1 hu
    rfl
  have hlen : (xs.take i ++ n :: xs.drop i).length = xs.length + 1 := by rw [List.length_append, List.length_cons, List.length_take, List.length_drop]; omega
  have hnums : nums .i64 (xs.take i ++ n :: xs.drop i) = (nums .i64 xs).take i ++ [.int .i64 n] ++ (nums .i64 xs).drop i := by simp [nums, List.map_take, List.map_drop]
  by_cases hroom : xs.length + 1 ≤ cap
  · have hsp : ∀ j, j < xs.length + 1 → (W.cell? ⟨b, 0 + j, none⟩).isSome = true := fun j hj => by
      rw [Nat.zero_add, cell_of_row W b j cur 3 (0, 0) hb, Array.getElem?_eq_getElem (by omega)]; rfl
    have hfz : ∀ (q : Nat) (cs : Array Value), W.heap[q]? = some (.cells cs 3 (0, 0)) → ∀ j, W.frozen? ⟨q, j, none⟩ = false := fun q cs hq j => frozen_of_row W q j cs 3 hq
    refine (Any2.slices_Insert_int_shift laysIns b 0 xs.length cap i g 0 1 1 (nums .i64 xs) [.int .i64 n] W hi2 (by decide) hroom (by simp only [maxLen] at hcm; omega) hgb hnl rfl hc1 hsp (fun j _ => hfz b cur hb _) hv1 h1c h1v 3 3 1 cur.size
      (by simp [World.shape?, hg]) (by simp [World.shape?, hb]) (by omega) (hfz g _ hg _) (hfz g _ hg _)).mono ?_
    rintro e w' ⟨rfl, rfl⟩
    have hb0 : W.drew.heap[b]? = some (.cells cur 3 (0, 0)) := hb
    have hb1 := heap_spl b ((nums .i64 xs).drop i) (0 + (i + 1)) W.drew cur hb0
    have hb2 := heap_spl b [.int .i64 n] (0 + i) _ _ hb1
    refine ⟨_, rfl, ?_, ?_, .inl rfl⟩
    · rw [hlen]
      refine ⟨by rw [hnums]; simp [nums]; omega, .inr ⟨b, cap, _, rfl, hBb, hb2, by omega, hcm, by rw [spl_size, spl_size]; omega, ?_⟩⟩
      have hdl : ((nums .i64 xs).drop i).length = xs.length - i := by rw [List.length_drop, hnl]
      have hcl : cur.toList.length = cap := by rw [Array.length_toList]; exact hcs
      rw [hnums, spl_list _ _ _ (by rw [spl_size]; simp only [List.length_cons, List.length_nil]; omega), spl_list _ _ _ (by rw [hdl]; omega), hdl]
      have e1 : (List.take i (nums .i64 xs)) = cur.toList.take i := by rw [← hcur, List.take_take, Nat.min_eq_left (by omega)]
      have e2 := splice_in cur.toList ((nums .i64 xs).drop i) (List.drop (i + 1 + (xs.length - i)) cur.toList) (.int .i64 n) i (by omega)
      rw [hdl, show i + 1 + (xs.length - i) = xs.length + 1 by omega] at e2
      rw [e1, Nat.mul_one]
      simp only [Nat.zero_add, List.length_cons, List.length_nil]
      rw [show i + 1 + (xs.length - i) = xs.length + 1 by omega]
      exact e2
    · have g1 : W.grownBy W.drew (some b) := grown_of ((Below.refl W.heap.size W).drew) _
      exact grown_trans (grown_trans g1 (grown_spl b _ _ _)) (grown_spl b _ _ _)
  · have hceq : cap = xs.length := by omega
    refine (Any2.slices_Insert_int_grow laysIns b 0 xs.length cap i g 0 1 1 (nums .i64 xs) [.int .i64 n] W hi2 (by decide) (by omega) (by omega) (by omega) hnl rfl hc1 hv1 h1c h1v).mono ?_
    rintro e w' ⟨rfl, rfl⟩
    obtain ⟨C, hC⟩ : ∃ C, C = (nums .i64 xs).take i ++ List.replicate (xs.length + 1 - i) (Value.int .i64 0) ++ List.replicate (grownCap W (xs.length + 1) cap 3 - (xs.length + 1)) (Value.int .i64 0) := ⟨_, rfl⟩
    have hzc : ∀ m, Builtin.zeroCells (Value.int .i64 0).cells m = (List.replicate m (Value.int .i64 0)).toArray := fun m => by
      apply Array.toList_inj.1
      rw [← toList_madeCells_one (.int .i64 0) m]; simp [Builtin.zeroCells, madeCells, Value.cells]
    have hcell : ((nums .i64 xs).take i).toArray ++ Builtin.zeroCells (Value.int .i64 0).cells (xs.length + 1 - i) ++ Builtin.zeroCells (Value.int .i64 0).cells (grownCap W (xs.length + 1) cap (laysIns_ren.t 3) - (xs.length + 1)) = C.toArray := by
      rw [hzc, hzc, hC]
      simp only [List.append_toArray]
      rfl
    rw [hcell]
    have hge := grownCap_ge W (xs.length + 1) cap 3
    have hCl : C.length = grownCap W (xs.length + 1) cap 3 := by
      rw [hC]; simp only [List.length_append, List.length_take, List.length_replicate, hnl]; omega
    have n0 := heap_alloc_new W (.cells C.toArray 3)
    have n1 := heap_spl W.heap.size [.int .i64 n] i (W.alloc (.cells C.toArray 3)).drew _ n0
    have n2 := heap_spl W.heap.size ((nums .i64 xs).drop i) (i + 1) (((W.alloc (.cells C.toArray 3)).drew.setCells W.heap.size i [.int .i64 n])).drew _ n1
    have hdl : ((nums .i64 xs).drop i).length = xs.length - i := by rw [List.length_drop, hnl]
    refine ⟨_, rfl, ?_, ?_, .inr ⟨_, Nat.le_refl _, rfl⟩⟩
    · rw [hlen]
      refine ⟨by rw [hnums]; simp [nums]; omega, .inr ⟨_, _, _, rfl, hB, n2, hge, grownCap_le_maxLen W (xs.length + 1) cap 3 (by simp only [maxLen]; omega), ?_, ?_⟩⟩
      · rw [spl_size, spl_size, Nat.mul_one]
        exact List.size_toArray.trans hCl
      · have hsz : C.toArray.size = C.length := List.size_toArray
        rw [hnums, Nat.mul_one, spl_list _ _ _ (by rw [spl_size, hdl, hsz, hCl]; omega), spl_list [Value.int .i64 n] _ _ (by rw [hsz, hCl]; simp only [List.length_cons, List.length_nil]; omega), hdl]
        have e2 := fun R2 => splice_new ((nums .i64 xs).take i) (List.replicate (xs.length + 1 - i) (Value.int .i64 0)) ((nums .i64 xs).drop i) (List.replicate (grownCap W (xs.length + 1) cap 3 - (xs.length + 1)) (Value.int .i64 0)) R2 (.int .i64 n) i (by rw [List.length_take, hnl]; omega)
        have hL : i + 1 + (xs.length - i) = xs.length + 1 := by omega
        simp only [hdl, hL, ← hC] at e2
        rw [hL]
        simp only [List.length_cons, List.length_nil, Nat.zero_add]
        exact e2 _
    · refine grown_of ?_ _
      have g1 : W.grownBy ((((W.alloc (.cells C.toArray 3)).drew.setCells W.heap.size i [.int .i64 n])).drew.setCells W.heap.size (i + 1) ((nums .i64 xs).drop i)) (some W.heap.size) := by
        refine grown_trans ?_ (grown_spl _ _ _ _)
        refine grown_trans (B := (W.alloc (.cells C.toArray 3)).drew.setCells W.heap.size i [.int .i64 n]) ?_ (grown_of (Below.refl _ _).drew _)
        refine grown_trans ?_ (grown_spl _ _ _ _)
        exact grown_of (((Below.refl W.heap.size W).alloc (Nat.le_refl _) _).drew) _
      exact ⟨g1.os, g1.tape, g1.output, g1.size, fun k hk => g1.block k hk (fun e => by injection e; omega)⟩
end Go.Proofs.Ytdfjacpfmjgfiaa
