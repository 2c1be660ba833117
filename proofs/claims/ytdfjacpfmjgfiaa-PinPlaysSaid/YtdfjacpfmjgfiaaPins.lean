/-
  Layer 17: slices.Insert of one number into an own row of numbers, anywhere: off the library's contracts.
-/
import Derived.Ground.Names2Prog
import Derived.Shelf.Spec.SlicesInsert
import Derived.Shelf.Spec.SlicesInsertGrow
import Derived.Test.YtdfjacpfmjgfiaaTable
import Derived.Test.YtdfjacpfmjgfiaaSplice
import Derived.Shelf.Slices.SearchI
import Derived.Shelf.Slices.Empties
namespace Go.Proofs.Ytdfjacpfmjgfiaa
set_option linter.unusedVariables false
set_option linter.unusedSimpArgs false
open Go.Shelf Go.RowKit Go.Proofs.YtdfjacpfmjgfiaaW.PrintWords Go.Proofs.YtdfjacpfmjgfiaaW.PrintMore
def laysIns_ren : Go.Shelf.Ren := ⟨fun | 21 => 31 | 27 => 38 | 28 => 39 | 35 => 41 | 39 => 42 | n => n, fun | 22 => 29 | 3 => 3 | 4 => 4 | 0 => 0 | n => n, fun | n => n⟩
theorem laysIns : Go.Proofs.Lays2.n21 Try.prog laysIns_ren := {
  mixed := by kernel_rfl
  f21 := Try.func31.trans (congrArg some (by kernel_rfl))
  f27 := Try.func38.trans (congrArg some (by kernel_rfl))
  f28 := Try.func39.trans (congrArg some (by kernel_rfl))
  f35 := Try.func41.trans (congrArg some (by kernel_rfl))
  f39 := Try.func42.trans (congrArg some (by kernel_rfl))
  t0 := Try.underlying0
  a0 := Try.isAgg0
  z0 := Try.sizeOf0
  v0 := Try.zeroValue0
  t3 := Try.underlying3
  a3 := Try.isAgg3
  z3 := Try.sizeOf3
  v3 := Try.zeroValue3
  t4 := Try.underlying4
  a4 := Try.isAgg4
  z4 := Try.sizeOf4
  v4 := Try.zeroValue4
  t22 := Try.underlying29
  a22 := Try.isAgg29
  z22 := Try.sizeOf29
  v22 := Try.zeroValue29
  i3 := by kernel_rfl }
theorem grown_of {w w' : World} (h : Grows w w') (r : Option Nat) : w.grownBy w' r := ⟨h.os, h.tape, h.output, h.size, fun k hk _ => h.block k hk⟩
theorem take_len {α : Type} {l : List α} {n : Nat} {xs : List α} (h : l.take n = xs) (hn : n ≤ l.length) : xs.length = n := by rw [← h, List.length_take]; omega
theorem splice_in {α : Type} (A D R : List α) (x : α) (i : Nat) (hA : i + 1 ≤ A.length) :
    ((A.take (i + 1) ++ D ++ R).take i ++ [x] ++ (A.take (i + 1) ++ D ++ R).drop (i + 1)).take (i + 1 + D.length) = A.take i ++ [x] ++ D := by
  have h1 : (A.take (i + 1) ++ D ++ R).take i = A.take i := by
    rw [List.append_assoc, List.take_append_of_le_length (by rw [List.length_take]; omega), List.take_take, Nat.min_eq_left (by omega)]
  have h2 : (A.take (i + 1) ++ D ++ R).drop (i + 1) = D ++ R := by
    rw [List.append_assoc]; exact List.drop_left' (by rw [List.length_take]; omega)
  rw [h1, h2, ← List.append_assoc]
  exact List.take_left' (by simp only [List.length_append, List.length_take, List.length_cons, List.length_nil]; omega)
theorem splice_new {α : Type} (A Z D R R2 : List α) (x : α) (i : Nat) (hA : A.length = i) :
    (((A ++ Z ++ R).take i ++ [x] ++ (A ++ Z ++ R).drop (i + 1)).take (i + 1) ++ D ++ R2).take (i + 1 + D.length) = A ++ [x] ++ D := by
  have h1 : (A ++ Z ++ R).take i = A := by rw [List.append_assoc]; exact List.take_left' hA
  have h2 : (A ++ [x]).length = i + 1 := by rw [List.length_append, hA]; rfl
  rw [h1, List.take_left' h2]
  exact List.take_left' (by rw [List.length_append, h2])
theorem insert_calls {W : World} {B : Nat} {v : Value} {xs : List Int} (ho : W.ownsRow B 3 1 v xs.length (nums .i64 xs)) (hB : B ≤ W.heap.size) (g : Nat) (n : Int) (hg : W.heap[g]? = some (.cells #[.int .i64 n] 3 (0, 0))) (hne : v.ownBlock ≠ some g) (hl : xs.length ≤ 100000) (i : Nat) (hi : i ≤ xs.length) :
    Calls Try.prog 31 #[v, .int .i64 i, .slice (some ⟨g, 0, none⟩) 1 1] W (InsPost W B v (xs.take i ++ n :: xs.drop i)) := by
  by_cases hin : i = xs.length
  · subst hin
    rw [List.take_length, List.drop_length]
    exact insert_end ho hB g n hg hl
  have hi2 : i < xs.length := by omega
  rcases ho.2 with ⟨_, h0⟩ | ⟨b, cap, cur, rfl, hBb, hb, hc, hcm, hcs, hcur⟩
  · omega
  have hgb : g ≠ b := fun e => hne (by rw [e]; rfl)
  have hcs : cur.size = cap := by omega
  rw [Nat.mul_one] at hcur
  have hnl : (nums .i64 xs).length = xs.length := by simp [nums]
  have hget : ∀ (j : Nat) (u : Value), (nums .i64 xs)[j]? = some u → cur[j]? = some u := fun j u hu => by
    rw [← hcur, List.getElem?_take] at hu
    split at hu
    · rw [← Array.getElem?_toList]; exact hu
    · cases hu
  have hc1 : ∀ (j : Nat) (u : Value), (nums .i64 xs)[j]? = some u → W.cell? ⟨b, 0 + j, none⟩ = some u := fun j u hu => by
    rw [Nat.zero_add]
    exact (cell_of_row W b j cur 3 (0, 0) hb).trans (hget j u hu)
  have hv1 : ∀ (j : Nat) (u : Value), ([.int .i64 n] : List Value)[j]? = some u → W.cell? ⟨g, 0 + j, none⟩ = some u := fun j u hu => by
    rw [Nat.zero_add]
    exact (cell_of_row W g j _ 3 (0, 0) hg).trans (by rw [← Array.getElem?_toList]; exact hu)
  have h1c : ∀ u ∈ nums .i64 xs, u.oneCell' = true := fun u hu => by simp only [nums, List.mem_map] at hu; obtain ⟨q, _, rfl⟩ := hu; rfl
  have h1v : ∀ u ∈ ([.int .i64 n] : List Value), u.oneCell' = true := fun u hu => by
    obtain rfl := List.mem_singleton.1 hu
    rfl
  have hlen : (xs.take i ++ n :: xs.drop i).length = xs.length + 1 := by rw [List.length_append, List.length_cons, List.length_take, List.length_drop]; omega
  have hnums : nums .i64 (xs.take i ++ n :: xs.drop i) = (nums .i64 xs).take i ++ [.int .i64 n] ++ (nums .i64 xs).drop i := by simp [nums, List.map_take, List.map_drop]
  by_cases hroom : xs.length + 1 ≤ cap
  · have hsp : ∀ j, j < xs.length + 1 → (W.cell? ⟨b, 0 + j, none⟩).isSome = true := fun j hj => by
      rw [Nat.zero_add, cell_of_row W b j cur 3 (0, 0) hb, Array.getElem?_eq_getElem (by omega)]; rfl
    have hfz : ∀ (q : Nat) (cs : Array Value), W.heap[q]? = some (.cells cs 3 (0, 0)) → ∀ j, W.frozen? ⟨q, j, none⟩ = false := fun q cs hq j => frozen_of_row W q j cs 3 hq
    refine (Any2.slices_Insert_int_shift laysIns b 0 xs.length cap i g 0 1 1 (nums .i64 xs) [.int .i64 n] W hi2 (by decide) hroom (by simp only [maxLen] at hcm; omega) hgb hnl rfl hc1 hsp (fun j _ => hfz b cur hb _) hv1 h1c h1v 3 3 1 cur.size
      (by simp [World.shape?, hg]) (by simp [World.shape?, hb]) (by omega) (hfz g _ hg _) (hfz g _ hg _)).mono ?_
    rintro e w' ⟨rfl, rfl⟩
    have hb0 : W.drew.heap[b]? = some (.cells cur 3 (0, 0)) := hb
    have hb1 := heap_spl b ((nums .i64 xs).drop i) (0 + (i + 1)) W.drew cur hb0
    have hb2 := heap_spl b [.int .i64 n] (0 + i) _ _ hb1
    refine ⟨_, rfl, ?_, ?_, .inl rfl⟩
    · rw [hlen]
      refine ⟨by rw [hnums]; simp [nums]; omega, .inr ⟨b, cap, _, rfl, hBb, hb2, by omega, hcm, by rw [spl_size, spl_size]; omega, ?_⟩⟩
      have hdl : ((nums .i64 xs).drop i).length = xs.length - i := by rw [List.length_drop, hnl]
      have hcl : cur.toList.length = cap := by rw [Array.length_toList]; exact hcs
      rw [hnums, spl_list _ _ _ (by rw [spl_size]; simp only [List.length_cons, List.length_nil]; omega), spl_list _ _ _ (by rw [hdl]; omega), hdl]
      have e1 : (List.take i (nums .i64 xs)) = cur.toList.take i := by rw [← hcur, List.take_take, Nat.min_eq_left (by omega)]
      have e2 := splice_in cur.toList ((nums .i64 xs).drop i) (List.drop (i + 1 + (xs.length - i)) cur.toList) (.int .i64 n) i (by omega)
      rw [hdl, show i + 1 + (xs.length - i) = xs.length + 1 by omega] at e2
      rw [e1, Nat.mul_one]
      simp only [Nat.zero_add, List.length_cons, List.length_nil]
      rw [show i + 1 + (xs.length - i) = xs.length + 1 by omega]
      exact e2
    · have g1 : W.grownBy W.drew (some b) := grown_of ((Below.refl W.heap.size W).drew) _
      exact grown_trans (grown_trans g1 (grown_spl b _ _ _)) (grown_spl b _ _ _)
  · have hceq : cap = xs.length := by omega
    refine (Any2.slices_Insert_int_grow laysIns b 0 xs.length cap i g 0 1 1 (nums .i64 xs) [.int .i64 n] W hi2 (by decide) (by omega) (by omega) (by omega) hnl rfl hc1 hv1 h1c h1v).mono ?_
    rintro e w' ⟨rfl, rfl⟩
    obtain ⟨C, hC⟩ : ∃ C, C = (nums .i64 xs).take i ++ List.replicate (xs.length + 1 - i) (Value.int .i64 0) ++ List.replicate (grownCap W (xs.length + 1) cap 3 - (xs.length + 1)) (Value.int .i64 0) := ⟨_, rfl⟩
    have hzc : ∀ m, Builtin.zeroCells (Value.int .i64 0).cells m = (List.replicate m (Value.int .i64 0)).toArray := fun m => by
      apply Array.toList_inj.1
      rw [← toList_madeCells_one (.int .i64 0) m]; simp [Builtin.zeroCells, madeCells, Value.cells]
    have hcell : ((nums .i64 xs).take i).toArray ++ Builtin.zeroCells (Value.int .i64 0).cells (xs.length + 1 - i) ++ Builtin.zeroCells (Value.int .i64 0).cells (grownCap W (xs.length + 1) cap (laysIns_ren.t 3) - (xs.length + 1)) = C.toArray := by
      rw [hzc, hzc, hC]
      simp only [List.append_toArray]
      rfl
    rw [hcell]
    have hge := grownCap_ge W (xs.length + 1) cap 3
    have hCl : C.length = grownCap W (xs.length + 1) cap 3 := by
      rw [hC]; simp only [List.length_append, List.length_take, List.length_replicate, hnl]; omega
    have n0 := heap_alloc_new W (.cells C.toArray 3)
    have n1 := heap_spl W.heap.size [.int .i64 n] i (W.alloc (.cells C.toArray 3)).drew _ n0
    have n2 := heap_spl W.heap.size ((nums .i64 xs).drop i) (i + 1) (((W.alloc (.cells C.toArray 3)).drew.setCells W.heap.size i [.int .i64 n])).drew _ n1
    have hdl : ((nums .i64 xs).drop i).length = xs.length - i := by rw [List.length_drop, hnl]
    refine ⟨_, rfl, ?_, ?_, .inr ⟨_, Nat.le_refl _, rfl⟩⟩
    · rw [hlen]
      refine ⟨by rw [hnums]; simp [nums]; omega, .inr ⟨_, _, _, rfl, hB, n2, hge, grownCap_le_maxLen W (xs.length + 1) cap 3 (by simp only [maxLen]; omega), ?_, ?_⟩⟩
      · rw [spl_size, spl_size, Nat.mul_one]
        exact List.size_toArray.trans hCl
      · have hsz : C.toArray.size = C.length := List.size_toArray
        rw [hnums, Nat.mul_one, spl_list _ _ _ (by rw [spl_size, hdl, hsz, hCl]; omega), spl_list [Value.int .i64 n] _ _ (by rw [hsz, hCl]; simp only [List.length_cons, List.length_nil]; omega), hdl]
        have e2 := fun R2 => splice_new ((nums .i64 xs).take i) (List.replicate (xs.length + 1 - i) (Value.int .i64 0)) ((nums .i64 xs).drop i) (List.replicate (grownCap W (xs.length + 1) cap 3 - (xs.length + 1)) (Value.int .i64 0)) R2 (.int .i64 n) i (by rw [List.length_take, hnl]; omega)
        have hL : i + 1 + (xs.length - i) = xs.length + 1 := by omega
        simp only [hdl, hL, ← hC] at e2
        rw [hL]
        simp only [List.length_cons, List.length_nil, Nat.zero_add]
        exact e2 _
    · refine grown_of ?_ _
      have g1 : W.grownBy ((((W.alloc (.cells C.toArray 3)).drew.setCells W.heap.size i [.int .i64 n])).drew.setCells W.heap.size (i + 1) ((nums .i64 xs).drop i)) (some W.heap.size) := by
        refine grown_trans ?_ (grown_spl _ _ _ _)
        refine grown_trans (B := (W.alloc (.cells C.toArray 3)).drew.setCells W.heap.size i [.int .i64 n]) ?_ (grown_of (Below.refl _ _).drew _)
        refine grown_trans ?_ (grown_spl _ _ _ _)
        exact grown_of (((Below.refl W.heap.size W).alloc (Nat.le_refl _) _).drew) _
      exact ⟨g1.os, g1.tape, g1.output, g1.size, fun k hk => g1.block k hk (fun e => by injection e; omega)⟩
end Go.Proofs.Ytdfjacpfmjgfiaa

/-
  Layer 17: handles and what they pin, in plain Lean.
-/
namespace Go.Proofs.Ytdfjacpfmjgfiaa
set_option linter.unusedVariables false
abbrev HL := List (Int × List Int)
theorem pw_mem {α : Type} {R : α → α → Prop} (hs : ∀ x y, R x y → R y x) : ∀ {l : List α}, l.Pairwise R → ∀ {x y : α}, x ∈ l → y ∈ l → x ≠ y → R x y
  | [], _, _, _, hx, _, _ => by cases hx
  | a :: l, h, x, y, hx, hy, hne => by
    obtain ⟨h1, h2⟩ := List.pairwise_cons.1 h
    rcases List.mem_cons.1 hx with ex | hx2
    · rcases List.mem_cons.1 hy with ey | hy2
      · exact absurd (ex.trans ey.symm) hne
      · rw [ex]; exact h1 y hy2
    · rcases List.mem_cons.1 hy with ey | hy2
      · rw [ey]; exact hs _ _ (h1 x hx2)
      · exact pw_mem hs h2 hx2 hy2 hne
/-- A number put where it belongs. -/
def ins (l : List Int) (n : Int) : List Int := if l.contains n then l else l.take (l.countP (· < n)) ++ n :: l.drop (l.countP (· < n))
def Rises (l : List Int) : Prop := l.Pairwise (· < ·)
theorem rises_le {l : List Int} (h : Rises l) : l.Pairwise (· ≤ ·) := List.Pairwise.imp (fun h => by omega) h
theorem count_le : ∀ (l : List Int) (n : Int), l.countP (· < n) ≤ l.length := fun l n => List.countP_le_length
theorem split_rise : ∀ {l : List Int} (n : Int), Rises l → (∀ x ∈ l.take (l.countP (· < n)), x < n) ∧ ∀ x ∈ l.drop (l.countP (· < n)), n ≤ x
  | [], n, _ => ⟨by simp, by simp⟩
  | a :: l, n, h => by
    obtain ⟨h1, h2⟩ := List.pairwise_cons.1 h
    obtain ⟨i1, i2⟩ := split_rise n h2
    by_cases ha : a < n
    · rw [List.countP_cons_of_pos (by simpa using ha)]
      refine ⟨fun x hx => ?_, fun x hx => ?_⟩
      · rw [List.take_succ_cons] at hx
        rcases List.mem_cons.1 hx with rfl | hx
        · exact ha
        · exact i1 x hx
      · rw [List.drop_succ_cons] at hx
        exact i2 x hx
    · have hz : l.countP (· < n) = 0 := by
        rw [List.countP_eq_zero]
        intro x hx
        have := h1 x hx
        simp; omega
      rw [List.countP_cons_of_neg (by simpa using ha), hz]
      refine ⟨by simp, fun x hx => ?_⟩
      rw [List.drop_zero] at hx
      rcases List.mem_cons.1 hx with rfl | hx
      · omega
      · have := h1 x hx; omega
theorem mem_ins {l : List Int} {n x : Int} : x ∈ ins l n ↔ x = n ∨ x ∈ l := by
  unfold ins
  by_cases h : l.contains n = true
  · rw [if_pos h]
    refine ⟨.inr, fun h' => h'.elim (fun e => ?_) id⟩
    rw [e]; simpa using h
  · rw [if_neg h, List.mem_append, List.mem_cons]
    conv => rhs; rw [← List.take_append_drop (l.countP (· < n)) l, List.mem_append]
    constructor
    · rintro (h | h | h)
      · exact .inr (.inl h)
      · exact .inl h
      · exact .inr (.inr h)
    · rintro (h | h | h)
      · exact .inr (.inl h)
      · exact .inl h
      · exact .inr (.inr h)
theorem rises_ins {l : List Int} {n : Int} (h : Rises l) : Rises (ins l n) := by
  unfold ins
  by_cases hc : l.contains n = true
  · rw [if_pos hc]; exact h
  · rw [if_neg hc]
    have hn : n ∉ l := by simpa using hc
    obtain ⟨h1, h2⟩ := split_rise n h
    refine List.pairwise_append.2 ⟨List.Pairwise.sublist (List.take_sublist _ _) h, List.pairwise_cons.2 ⟨fun x hx => ?_, List.Pairwise.sublist (List.drop_sublist _ _) h⟩, fun x hx y hy => ?_⟩
    · have h3 := h2 x hx
      have : x ≠ n := fun e => hn (by rw [← e]; exact List.mem_of_mem_drop hx)
      omega
    · have h3 := h1 x hx
      rcases List.mem_cons.1 hy with rfl | hy
      · exact h3
      · have := h2 y hy; omega
theorem ins_len (l : List Int) (n : Int) : (ins l n).length ≤ l.length + 1 ∧ l.length ≤ (ins l n).length := by
  unfold ins
  split
  · omega
  · have := count_le l n
    rw [List.length_append, List.length_cons, List.length_take, List.length_drop]; omega
def Keyed' (hl : HL) : Prop := (hl.map (·.1)).Nodup
def getL (hl : HL) (k : Int) : Option (List Int) := (hl.find? fun x => x.1 == k).map (·.2)
def pinL (hl : HL) (k n : Int) : HL := hl.map fun x => if x.1 = k then (x.1, ins x.2 n) else x
def delL (hl : HL) (k : Int) : HL := hl.filter fun x => x.1 != k
def cnt (hl : HL) (n : Int) : Nat := hl.countP fun x => x.2.contains n
theorem getL_mem {hl : HL} {k : Int} {l : List Int} (h : getL hl k = some l) : (k, l) ∈ hl := by
  unfold getL at h
  obtain ⟨x, hx, rfl⟩ := Option.map_eq_some_iff.1 h
  have h1 := List.mem_of_find?_eq_some hx
  have h2 := List.find?_some hx
  have : x.1 = k := by simpa using h2
  rw [← this]; exact h1
theorem getL_none {hl : HL} {k : Int} : getL hl k = none ↔ ∀ x ∈ hl, x.1 ≠ k := by
  unfold getL
  rw [Option.map_eq_none_iff, List.find?_eq_none]
  constructor
  · intro h x hx e; exact h x hx (by simp [e])
  · intro h x hx e; exact h x hx (by simpa using e)
theorem split_key {hl : HL} {k : Int} {l : List Int} (hk : Keyed' hl) (hx : (k, l) ∈ hl) : ∃ A B, hl = A ++ (k, l) :: B ∧ (∀ y ∈ A, y.1 ≠ k) ∧ ∀ y ∈ B, y.1 ≠ k := by
  obtain ⟨A, B, rfl⟩ := List.append_of_mem hx
  refine ⟨A, B, rfl, ?_⟩
  unfold Keyed' at hk
  rw [List.map_append, List.map_cons] at hk
  obtain ⟨h1, h2, h3⟩ := List.nodup_append.1 hk
  obtain ⟨h4, h5⟩ := List.nodup_cons.1 h2
  refine ⟨fun y hy e => h3 y.1 (List.mem_map_of_mem hy) k (by simp) e, fun y hy e => (show k ∉ B.map (·.1) from h4) (by rw [← e]; exact List.mem_map_of_mem (f := fun x : Int × List Int => x.1) hy)⟩
theorem getL_of_mem {hl : HL} {k : Int} {l : List Int} (hk : Keyed' hl) (hx : (k, l) ∈ hl) : getL hl k = some l := by
  obtain ⟨A, B, rfl, h1, h2⟩ := split_key hk hx
  unfold getL
  rw [List.find?_append, List.find?_eq_none.2 (fun y hy e => h1 y hy (by simpa using e))]
  simp
theorem map_id_of {hl : HL} {k n : Int} (h : ∀ y ∈ hl, y.1 ≠ k) : pinL hl k n = hl := by
  unfold pinL
  conv => rhs; rw [← List.map_id hl]
  exact List.map_congr_left fun x hx => by rw [if_neg (h x hx)]; rfl
theorem pinL_split {A B : HL} {k n : Int} {l : List Int} (h1 : ∀ y ∈ A, y.1 ≠ k) (h2 : ∀ y ∈ B, y.1 ≠ k) : pinL (A ++ (k, l) :: B) k n = A ++ (k, ins l n) :: B := by
  have e1 := map_id_of (n := n) h1
  have e2 := map_id_of (n := n) h2
  unfold pinL at e1 e2 ⊢
  rw [List.map_append, List.map_cons, e1, e2, if_pos rfl]
theorem delL_split {A B : HL} {k : Int} {l : List Int} (h1 : ∀ y ∈ A, y.1 ≠ k) (h2 : ∀ y ∈ B, y.1 ≠ k) : delL (A ++ (k, l) :: B) k = A ++ B := by
  unfold delL
  rw [List.filter_append, List.filter_cons_of_neg (by simp), List.filter_eq_self.2 (fun y hy => by simpa using h1 y hy), List.filter_eq_self.2 (fun y hy => by simpa using h2 y hy)]
theorem pinL_keys (hl : HL) (k n : Int) : (pinL hl k n).map (·.1) = hl.map (·.1) := by
  unfold pinL
  rw [List.map_map]
  exact List.map_congr_left fun x _ => by simp only [Function.comp]; split <;> rfl
theorem pinL_none {hl : HL} {k n : Int} (h : getL hl k = none) : pinL hl k n = hl := map_id_of (getL_none.1 h)
theorem delL_none {hl : HL} {k : Int} (h : getL hl k = none) : delL hl k = hl := by
  unfold delL
  exact List.filter_eq_self.2 fun y hy => by simpa using getL_none.1 h y hy
theorem cnt_app (A B : HL) (n : Int) : cnt (A ++ B) n = cnt A n + cnt B n := List.countP_append
theorem cnt_cons (x : Int × List Int) (B : HL) (n : Int) : cnt (x :: B) n = cnt B n + if x.2.contains n then 1 else 0 := by
  unfold cnt; rw [List.countP_cons]
theorem cnt_le (hl : HL) (n : Int) : cnt hl n ≤ hl.length := List.countP_le_length
theorem contains_ins (l : List Int) (n m : Int) : (ins l n).contains m = (m == n || l.contains m) := by
  rw [Bool.eq_iff_iff]; simp [mem_ins]
theorem cnt_pin {hl : HL} {k n : Int} {l : List Int} (hk : Keyed' hl) (hx : getL hl k = some l) (hn : l.contains n = false) (m : Int) : cnt (pinL hl k n) m = if m = n then cnt hl n + 1 else cnt hl m := by
  obtain ⟨A, B, rfl, h1, h2⟩ := split_key hk (getL_mem hx)
  rw [pinL_split h1 h2, cnt_app, cnt_cons, cnt_app, cnt_cons, cnt_app, cnt_cons]
  simp only [contains_ins]
  by_cases hm : m = n
  · subst hm
    rw [hn]
    simp
    omega
  · have : (m == n) = false := by simpa using hm
    rw [this, if_neg hm, Bool.false_or]
theorem pin_same {hl : HL} {k n : Int} {l : List Int} (hk : Keyed' hl) (hx : getL hl k = some l) (hn : l.contains n = true) : pinL hl k n = hl := by
  obtain ⟨A, B, rfl, h1, h2⟩ := split_key hk (getL_mem hx)
  rw [pinL_split h1 h2]
  unfold ins
  rw [if_pos hn]
theorem cnt_del {hl : HL} {k : Int} {l : List Int} (hk : Keyed' hl) (hx : getL hl k = some l) (m : Int) : cnt hl m = cnt (delL hl k) m + if l.contains m then 1 else 0 := by
  obtain ⟨A, B, rfl, h1, h2⟩ := split_key hk (getL_mem hx)
  rw [delL_split h1 h2, cnt_app, cnt_cons, cnt_app]
  show cnt A m + (cnt B m + if l.contains m then 1 else 0) = _
  omega
/-- What a table's handles must be. -/
structure HOk (next : Int) (hl : HL) : Prop where
  keyed : Keyed' hl
  low : ∀ x ∈ hl, 1 ≤ x.1 ∧ x.1 < next
  rise : ∀ x ∈ hl, Rises x.2
theorem HOk.nil (n : Int) : HOk n [] := ⟨List.nodup_nil, (fun x h => by cases h), (fun x h => by cases h)⟩
theorem HOk.pin {next : Int} {hl : HL} (h : HOk next hl) (k n : Int) : HOk next (pinL hl k n) := by
  refine ⟨by unfold Keyed'; rw [pinL_keys]; exact h.keyed, fun x hx => ?_, fun x hx => ?_⟩
  · obtain ⟨y, hy, rfl⟩ := List.mem_map.1 hx
    have := h.low y hy
    split <;> exact this
  · obtain ⟨y, hy, rfl⟩ := List.mem_map.1 hx
    split
    · exact rises_ins (h.rise y hy)
    · exact h.rise y hy
theorem HOk.del {next : Int} {hl : HL} (h : HOk next hl) (k : Int) : HOk next (delL hl k) :=
  ⟨List.Nodup.sublist (List.Sublist.map _ List.filter_sublist) h.keyed, fun x hx => h.low x ((List.mem_filter.1 hx).1), fun x hx => h.rise x ((List.mem_filter.1 hx).1)⟩
theorem HOk.open {next : Int} {hl : HL} (h : HOk next hl) (h1 : 1 ≤ next) (l : List Int) (hl' : Rises l) : HOk (next + 1) (hl ++ [(next, l)]) := by
  refine ⟨?_, fun x hx => ?_, fun x hx => ?_⟩
  · unfold Keyed'
    rw [List.map_append]
    refine List.nodup_append.2 ⟨h.keyed, by simp, fun a ha b hb e => ?_⟩
    obtain ⟨y, hy, rfl⟩ := List.mem_map.1 ha
    simp at hb
    have := (h.low y hy).2
    omega
  · rcases List.mem_append.1 hx with hx | hx
    · have := h.low x hx; omega
    · obtain rfl := List.mem_singleton.1 hx
      exact ⟨h1, by show next < next + 1; omega⟩
  · rcases List.mem_append.1 hx with hx | hx
    · exact h.rise x hx
    · obtain rfl := List.mem_singleton.1 hx
      exact hl'
end Go.Proofs.Ytdfjacpfmjgfiaa

/-
  Layer 17: a table of handles, whatever it owns; a handle pins one segment more.
-/
namespace Go.Proofs.Ytdfjacpfmjgfiaa
set_option linter.unusedVariables false
set_option linter.unusedSimpArgs false
open Go.Shelf Go.RowKit Go.Proofs.YtdfjacpfmjgfiaaW.PrintWords Go.Proofs.YtdfjacpfmjgfiaaW.PrintMore
attribute [local go_sem] max2_int
def laysBs_ren : Go.Shelf.Ren := ⟨fun | 25 => 30 | 31 => 36 | 32 => 37 | 37 => 40 | n => n, fun | 22 => 29 | 3 => 3 | 4 => 4 | 40 => 65 | 0 => 0 | n => n, fun | n => n⟩
theorem laysBs : Go.Proofs.Lays2.n25 Try.prog laysBs_ren := {
  mixed := by kernel_rfl
  f25 := Try.func30.trans (congrArg some (by kernel_rfl))
  f31 := Try.func36.trans (congrArg some (by kernel_rfl))
  f32 := Try.func37.trans (congrArg some (by kernel_rfl))
  f37 := Try.func40.trans (congrArg some (by kernel_rfl))
  t0 := Try.underlying0
  a0 := Try.isAgg0
  z0 := Try.sizeOf0
  v0 := Try.zeroValue0
  t3 := Try.underlying3
  a3 := Try.isAgg3
  z3 := Try.sizeOf3
  v3 := Try.zeroValue3
  t4 := Try.underlying4
  a4 := Try.isAgg4
  z4 := Try.sizeOf4
  v4 := Try.zeroValue4
  t22 := Try.underlying29
  a22 := Try.isAgg29
  z22 := Try.sizeOf29
  v22 := Try.zeroValue29
  t40 := Try.underlying65
  a40 := Try.isAgg65
  z40 := Try.sizeOf65
  v40 := Try.zeroValue65 }
def absH (hs : List Hd) : HL := hs.map fun x => (x.key, x.l)
structure PinsOk (ps : List (Int × Int)) (hl : HL) : Prop where
  keys : (ps.map (·.1)).Nodup
  cnt : ∀ n, pinOf ps n = (cnt hl n : Int)
/-- A table at t, all of whose blocks are some of O. -/
def TabA (W : World) (O : Nat → Prop) (t : Nat) (most next : Int) (hl : HL) : Prop :=
  ∃ S P hs ps, Tab W 0 t S P most next hs ps ∧ absH hs = hl ∧ PinsOk ps hl ∧ HOk next hl ∧ ∀ k, OwnT t S P hs k → O k
/-- What a call does of a table: its own blocks alone turn, or are new. -/
def TPost (W : World) (O : Nat → Prop) (t : Nat) (most next : Int) (hl : HL) (r : Value) (e : Ending) (w' : World) : Prop :=
  e = .returned r ∧ ∃ O', TabA w' O' t most next hl ∧ KeepS O W w' ∧ ∀ k, O' k → O k ∨ W.heap.size ≤ k
theorem TabA.keep {W W' : World} {O : Nat → Prop} {t : Nat} {most next : Int} {hl : HL} (h : TabA W O t most next hl) (hk : ∀ k, O k → k < W.heap.size → W'.heap[k]? = W.heap[k]?) : TabA W' O t most next hl := by
  obtain ⟨S, P, hs, ps, h1, h2, h3, h4, h5⟩ := h
  exact ⟨S, P, hs, ps, h1.keep fun k hk2 => hk k (h5 k hk2) (h1.lt hk2), h2, h3, h4, h5⟩
theorem TabA.mono {W : World} {O O' : Nat → Prop} {t : Nat} {most next : Int} {hl : HL} (h : TabA W O t most next hl) (hk : ∀ k, O k → O' k) : TabA W O' t most next hl := by
  obtain ⟨S, P, hs, ps, h1, h2, h3, h4, h5⟩ := h
  exact ⟨S, P, hs, ps, h1, h2, h3, h4, fun k hk2 => hk k (h5 k hk2)⟩
theorem hdOf_abs (hs : List Hd) (k : Int) : getL (absH hs) k = (hdOf hs k).map (·.l) := by
  unfold getL absH hdOf
  rw [List.find?_map]
  cases h : List.find? (fun x : Hd => x.key == k) hs with
  | none =>
    have : List.find? ((fun x : Int × List Int => x.1 == k) ∘ fun x : Hd => (x.key, x.l)) hs = none := h
    rw [this]; rfl
  | some x =>
    have : List.find? ((fun x : Int × List Int => x.1 == k) ∘ fun x : Hd => (x.key, x.l)) hs = some x := h
    rw [this]; rfl
/-- A handle whose row has turned. -/
def setH (hs : List Hd) (k : Int) (v : Value) (l : List Int) : List Hd := hs.map fun x => if x.key = k then ⟨x.key, x.box, v, l⟩ else x
theorem absH_keys (hs : List Hd) : (absH hs).map (·.1) = hs.map (·.key) := by unfold absH; rw [List.map_map]; rfl
theorem split_hd {hs : List Hd} {k : Int} {x : Hd} (hk : Keyed' (absH hs)) (hx : hdOf hs k = some x) : ∃ A B, hs = A ++ x :: B ∧ x.key = k ∧ (∀ y ∈ A, y.key ≠ k) ∧ ∀ y ∈ B, y.key ≠ k := by
  obtain ⟨hm, he⟩ := hdOf_mem hx
  obtain ⟨A, B, rfl⟩ := List.append_of_mem hm
  unfold Keyed' at hk
  rw [absH_keys, List.map_append, List.map_cons] at hk
  obtain ⟨h1, h2, h3⟩ := List.nodup_append.1 hk
  obtain ⟨h4, h5⟩ := List.nodup_cons.1 h2
  refine ⟨A, B, rfl, he, fun y hy e => h3 y.key (List.mem_map_of_mem hy) x.key (by simp) (e.trans he.symm), fun y hy e => h4 (by rw [he, ← e]; exact List.mem_map_of_mem hy)⟩
theorem setH_split {A B : List Hd} {x : Hd} {v : Value} {l : List Int} (h1 : ∀ y ∈ A, y.key ≠ x.key) (h2 : ∀ y ∈ B, y.key ≠ x.key) : setH (A ++ x :: B) x.key v l = A ++ ⟨x.key, x.box, v, l⟩ :: B := by
  have id_of : ∀ {L : List Hd}, (∀ y ∈ L, y.key ≠ x.key) → L.map (fun y => if y.key = x.key then ⟨y.key, y.box, v, l⟩ else y) = L := fun {L} h => by
    conv => rhs; rw [← List.map_id L]
    exact List.map_congr_left fun y hy => by rw [if_neg (h y hy)]; rfl
  unfold setH
  rw [List.map_append, List.map_cons, id_of h1, id_of h2, if_pos rfl]
theorem absH_app (A B : List Hd) : absH (A ++ B) = absH A ++ absH B := List.map_append
theorem absH_ne {A : List Hd} {k : Int} (h : ∀ y ∈ A, y.key ≠ k) : ∀ y ∈ absH A, y.1 ≠ k := fun y hy => by
  obtain ⟨z, hz, rfl⟩ := List.mem_map.1 hy
  exact h z hz
theorem setH_abs {hs : List Hd} {k n : Int} {x : Hd} (hk : Keyed' (absH hs)) (hx : hdOf hs k = some x) (v : Value) : absH (setH hs k v (ins x.l n)) = pinL (absH hs) k n := by
  obtain ⟨A, B, rfl, rfl, h1, h2⟩ := split_hd hk hx
  rw [setH_split h1 h2, absH_app, absH_app]
  exact (pinL_split (absH_ne h1) (absH_ne h2)).symm
theorem pw_mid {α : Type} {R : α → α → Prop} {A B : List α} {x y : α} (h : (A ++ x :: B).Pairwise R) (h1 : ∀ a ∈ A, R a x → R a y) (h2 : ∀ b ∈ B, R x b → R y b) : (A ++ y :: B).Pairwise R := by
  obtain ⟨p1, p2, p3⟩ := List.pairwise_append.1 h
  obtain ⟨p4, p5⟩ := List.pairwise_cons.1 p2
  refine List.pairwise_append.2 ⟨p1, List.pairwise_cons.2 ⟨fun b hb => h2 b hb (p4 b hb), p5⟩, fun a ha b hb => ?_⟩
  rcases List.mem_cons.1 hb with rfl | hb
  · exact h1 a ha (p3 a ha x (by simp))
  · exact p3 a ha b (List.mem_cons_of_mem _ hb)
theorem pw_mid_get {α : Type} {R : α → α → Prop} {A B : List α} {x : α} (h : (A ++ x :: B).Pairwise R) : (∀ a ∈ A, R a x) ∧ ∀ b ∈ B, R x b := by
  obtain ⟨p1, p2, p3⟩ := List.pairwise_append.1 h
  exact ⟨fun a ha => p3 a ha x (by simp), (List.pairwise_cons.1 p2).1⟩
theorem map_not_cells {W : World} {k : Nat} {es : Ents} (h : IMap W k es) {cs : Array Value} {T : TypeId} {fr : Nat × Nat} : W.heap[k]? ≠ some (.cells cs T fr) := fun e => by
  obtain ⟨a, c, hb, _⟩ := h
  rw [e] at hb; injection hb with hb; cases hb
/-- A handle's row has turned, and lies in its box. -/
theorem Tab.rowTo {W W1 : World} {t S P : Nat} {most next : Int} {hs : List Hd} {ps : List (Int × Int)} (h : Tab W 0 t S P most next hs ps) (hk : Keyed' (absH hs)) {k : Int} {x : Hd} (hx : hdOf hs k = some x) (hg : W.grownBy W1 x.v.ownBlock) {v' : Value} {l' : List Int}
    (ho : W1.ownsRow 0 3 1 v' l'.length (nums .i64 l')) (hloc : v'.ownBlock = x.v.ownBlock ∨ ∃ b, W.heap.size ≤ b ∧ v'.ownBlock = some b) :
    Tab (W1.setCell ⟨x.box, 0, none⟩ v') 0 t S P most next (setH hs k v' l') ps ∧ W1.heap[x.box]? = some (.cells #[x.v] 29 (0, 0)) ∧ ∀ q, OwnT t S P (setH hs k v' l') q → OwnT t S P hs q ∨ W.heap.size ≤ q := by
  obtain ⟨A, B, rfl, rfl, h1, h2⟩ := split_hd hk hx
  have hmid : x ∈ A ++ x :: B := by simp
  have hxb := (h.box x hmid).1
  have hxo := (h.box x hmid).2
  -- what is not x's own row is as it was
  have keep1 : ∀ (q : Nat) (o : Obj), W.heap[q]? = some o → x.v.ownBlock ≠ some q → W1.heap[q]? = some o := fun q o ho2 hne => (hg.block q (lt_heap ho2) (fun e => hne e.symm)).trans ho2
  have keep2 : ∀ (q : Nat) (o : Obj), W.heap[q]? = some o → x.v.ownBlock ≠ some q → q ≠ x.box → (W1.setCell ⟨x.box, 0, none⟩ v').heap[q]? = some o := fun q o ho2 hne hb => set_other W1 x.box 0 v' (keep1 q o ho2 hne) hb
  have typ : ∀ (q : Nat) (cs : Array Value) (T : TypeId), W.heap[q]? = some (.cells cs T (0, 0)) → T ≠ 3 → x.v.ownBlock ≠ some q := fun q cs T hq hT e => by
    obtain ⟨cs2, h5⟩ := own_typed hxo q e
    rw [hq] at h5; injection h5 with h5; injection h5 with _ h5; exact hT h5
  have tmap : ∀ (q : Nat) (es : Ents), IMap W q es → x.v.ownBlock ≠ some q ∧ q ≠ x.box := fun q es hq => ⟨fun e => by
    obtain ⟨cs2, h5⟩ := own_typed hxo q e
    exact map_not_cells hq h5, fun e => map_not_cells hq (show W.heap[q]? = some (.cells #[x.v] 29 (0, 0)) by rw [e]; exact hxb)⟩
  have hbox1 := keep1 x.box _ hxb (typ _ _ _ hxb (by decide))
  obtain ⟨p1, p2⟩ := pw_mid_get h.apart
  rw [setH_split h1 h2]
  have hnb : ∀ q, v'.ownBlock = some q → q ≠ x.box := fun q e eq => by
    subst eq
    rcases hloc with hl | ⟨b, hb, hl⟩
    · exact typ _ _ _ hxb (by decide) (hl.symm.trans e)
    · rw [hl] at e; injection e with e; have := lt_heap hxb; omega
  have hoth : ∀ y : Hd, (y ∈ A ∨ y ∈ B) → y.box ≠ x.box ∧ (∀ q, y.v.ownBlock = some q → x.v.ownBlock ≠ some q ∧ v'.ownBlock ≠ some q) := fun y hy => by
    have hym : y ∈ A ++ x :: B := by rcases hy with hy | hy <;> simp [hy]
    have hap : y.box ≠ x.box ∧ ∀ q, y.v.ownBlock = some q → x.v.ownBlock ≠ some q := by
      rcases hy with hy | hy
      · exact p1 y hy
      · have := p2 y hy
        exact ⟨fun e => this.1 e.symm, fun q e e2 => this.2 q e2 e⟩
    refine ⟨hap.1, fun q e => ⟨hap.2 q e, fun e2 => ?_⟩⟩
    rcases hloc with hl | ⟨b, hb, hl⟩
    · exact hap.2 q e (hl.symm.trans e2)
    · rw [hl] at e2; injection e2 with e2; have := own_lt (h.box y hym).2 q e; omega
  refine ⟨⟨keep2 t _ h.blk (typ _ _ _ h.blk (by decide)) (fun e => by have := h.blk; rw [e, hxb] at this; injection this with this; injection this with _ this; cases this),
    ?_, ?_, ?_, ?_, h.SP⟩, hbox1, ?_⟩
  · have e1 : entS (A ++ ⟨x.key, x.box, v', l'⟩ :: B) = entS (A ++ x :: B) := by simp [entS]
    rw [e1]
    obtain ⟨a, c, hb, hm⟩ := h.segs
    exact ⟨a, c, keep2 S _ hb (tmap S _ ⟨a, c, hb, hm⟩).1 (tmap S _ ⟨a, c, hb, hm⟩).2, hm⟩
  · obtain ⟨a, c, hb, hm⟩ := h.pins
    exact ⟨a, c, keep2 P _ hb (tmap P _ ⟨a, c, hb, hm⟩).1 (tmap P _ ⟨a, c, hb, hm⟩).2, hm⟩
  · have rest : ∀ y : Hd, (y ∈ A ∨ y ∈ B) → (W1.setCell ⟨x.box, 0, none⟩ v').heap[y.box]? = some (.cells #[y.v] 29 (0, 0)) ∧ (W1.setCell ⟨x.box, 0, none⟩ v').ownsRow 0 3 1 y.v y.l.length (nums .i64 y.l) := fun y hy => by
      have hym : y ∈ A ++ x :: B := by rcases hy with hy | hy <;> simp [hy]
      obtain ⟨a1, a2⟩ := hoth y hy
      have hyb := h.box y hym
      refine ⟨keep2 _ _ hyb.1 (typ _ _ _ hyb.1 (by decide)) a1, own_move hyb.2 fun q e => ?_⟩
      obtain ⟨cs, hcs⟩ := own_typed hyb.2 q e
      rw [keep2 q _ hcs (a2 q e).1 (fun e2 => by rw [e2, hxb] at hcs; injection hcs with hcs; injection hcs with _ hcs; cases hcs), hcs]
    intro y hy
    rcases List.mem_append.1 hy with hy | hy
    · exact rest y (.inl hy)
    · rcases List.mem_cons.1 hy with rfl | hy
      · refine ⟨?_, own_move ho fun q e => Below.heap_setCell W1 ⟨x.box, 0, none⟩ v' q (hnb q e)⟩
        have := heap_spl x.box [v'] 0 W1 _ hbox1
        exact this
      · exact rest y (.inr hy)
  · refine pw_mid h.apart (fun a ha _ => ⟨(hoth a (.inl ha)).1, fun q e => ((hoth a (.inl ha)).2 q e).2⟩) (fun b hb _ => ⟨fun e => (hoth b (.inr hb)).1 e.symm, fun q e e2 => ((hoth b (.inr hb)).2 q e2).2 e⟩)
  · rintro q (rfl | rfl | rfl | ⟨y, hy, hq⟩)
    · exact .inl (.inl rfl)
    · exact .inl (.inr (.inl rfl))
    · exact .inl (.inr (.inr (.inl rfl)))
    · rcases List.mem_append.1 hy with hy | hy
      · exact .inl (.inr (.inr (.inr ⟨y, by simp [hy], hq⟩)))
      · rcases List.mem_cons.1 hy with rfl | hy
        · rcases hq with rfl | hq
          · exact .inl (.inr (.inr (.inr ⟨x, hmid, .inl rfl⟩)))
          · rcases hloc with hl | ⟨b, hb, hl⟩
            · exact .inl (.inr (.inr (.inr ⟨x, hmid, .inr (hl.symm.trans hq)⟩)))
            · right
              have : some b = some q := hl.symm.trans hq
              injection this with this; omega
        · exact .inl (.inr (.inr (.inr ⟨y, by simp [hy], hq⟩)))
end Go.Proofs.Ytdfjacpfmjgfiaa

/-
  Layer 17: a handle pins one segment more.
-/
namespace Go.Proofs.Ytdfjacpfmjgfiaa
set_option linter.unusedVariables false
set_option linter.unusedSimpArgs false
open Go.Shelf Go.RowKit Go.Proofs.YtdfjacpfmjgfiaaW.PrintWords Go.Proofs.YtdfjacpfmjgfiaaW.PrintMore
attribute [local go_sem] max2_int
theorem bs_own {W : World} {v : Value} {xs : List Int} (ho : W.ownsRow 0 3 1 v xs.length (nums .i64 xs)) (hr : Rises xs) (hl : xs.length ≤ 100000) (n : Int) :
    Calls Try.prog 30 #[v, .int .i64 n] W fun e w' => e = .returned (.tuple #[.int .i64 ((xs.countP (· < n) : Nat) : Int), .bool (xs.contains n)]) ∧ ∃ q, w' = W.drewN q := by
  rcases ho.2 with ⟨rfl, h0⟩ | ⟨b, cap, cur, rfl, hBb, hb, hc, hcm, hcs, hcur⟩
  · obtain rfl : xs = [] := List.eq_nil_of_length_eq_zero h0
    refine (Any.slices_BinarySearch_int_empty laysBs none 0 n W).mono ?_
    rintro e w' ⟨rfl, rfl⟩
    exact ⟨rfl, 0, rfl⟩
  · rw [Nat.mul_one] at hcur
    refine (Any.slices_BinarySearch_int laysBs b 0 xs.length cap xs n W (Nat.le_refl _) (by omega) (fun j hj => ?_) (by rw [List.take_length]; exact rises_le hr)).mono ?_
    · rw [Nat.zero_add, cell_of_row W b j cur 3 (0, 0) hb, ← Array.getElem?_toList]
      have h2 : (cur.toList.take xs.length)[j]? = cur.toList[j]? := by rw [List.getElem?_take, if_pos hj]
      rw [← h2, hcur]
      simp [nums, List.getD_eq_getElem?_getD, List.getElem?_eq_getElem hj]
    · rintro e w' ⟨rfl, q, rfl⟩
      rw [List.take_length]
      exact ⟨rfl, q, rfl⟩
theorem Tab.boxCell {W : World} {B t S P : Nat} {most next : Int} {hs : List Hd} {ps : List (Int × Int)} (h : Tab W B t S P most next hs ps) {x : Hd} (hx : x ∈ hs) : W.cell? ⟨x.box, 0, none⟩ = some x.v := cell_of_row W x.box 0 _ 29 (0, 0) (h.box x hx).1
theorem pin_none {W : World} {O : Nat → Prop} {t : Nat} {most next : Int} {hl : HL} (h : TabA W O t most next hl) (k n : Int) (hk : getL hl k = none) :
    Calls Try.prog 13 #[.pointer (some ⟨t, 0, none⟩), .int .i64 k, .int .i64 n] W (TPost W O t most next (pinL hl k n) (.bool (getL hl k).isSome)) := by
  have hh := h
  obtain ⟨S, P, hs, ps, h1, h2, h3, h4, h5⟩ := hh
  have c2 := h1.c2
  have hlk := run_lookok_i Try.underlying48 Try.underlying3 zero55 h1.segs k
  have hd : hdOf hs k = none := by
    rw [← h2, hdOf_abs] at hk
    cases hd : hdOf hs k with
    | none => rfl
    | some x => rw [hd] at hk; cases hk
  rw [look_S, hd] at hlk
  simp only [Option.map_none, Option.getD_none, Option.isSome_none] at hlk
  have H := Aside0.mk h
  rw [pinL_none hk, hk]
  clear h h1 h2 h3 h4 h5 hd hk
  go_enter Try.func13, Try.ntmps13
  go_wp2
  go_ret
  exact ⟨rfl, O, H.out, KeepS.refl _ _, fun k hk => .inl hk⟩
set_option maxRecDepth 100000 in
set_option maxHeartbeats 1000000 in
theorem pin_same_calls {W : World} {O : Nat → Prop} {t : Nat} {most next : Int} {hl : HL} (h : TabA W O t most next hl) (hb : ∀ x ∈ hl, x.2.length ≤ 99999) (k n : Int) {l : List Int} (hk : getL hl k = some l) (hn : l.contains n = true) :
    Calls Try.prog 13 #[.pointer (some ⟨t, 0, none⟩), .int .i64 k, .int .i64 n] W (TPost W O t most next (pinL hl k n) (.bool (getL hl k).isSome)) := by
  have hh := h
  obtain ⟨S, P, hs, ps, h1, h2, h3, h4, h5⟩ := hh
  have c2 := h1.c2
  have hlk := run_lookok_i Try.underlying48 Try.underlying3 zero55 h1.segs k
  obtain ⟨x, hd, hxl⟩ : ∃ x, hdOf hs k = some x ∧ x.l = l := by
    rw [← h2, hdOf_abs] at hk
    exact Option.map_eq_some_iff.1 hk
  subst hxl
  rw [look_S, hd] at hlk
  simp only [Option.map_some, Option.getD_some, Option.isSome_some] at hlk
  have hx := (hdOf_mem hd).1
  have e0 := h1.boxCell hx
  have hxl : (x.key, x.l) ∈ hl := by rw [← h2]; exact List.mem_map_of_mem hx
  have HB := Aside0.mk (bs_own (h1.box x hx).2 (h4.rise _ hxl) (by have := hb _ hxl; simp at this; omega) n)
  rw [hn] at HB
  have H := Aside0.mk h
  rw [pin_same h4.keyed hk hn, hk]
  clear h h1 h2 h3 h4 h5 hd hk hx hxl hn hb
  obtain ⟨xk, xb, xv, xl⟩ := x
  simp only at hlk e0 HB ⊢
  go_enter Try.func13, Try.ntmps13
  go_wp2_with (go_at_call 30; refine HB.out.mono ?_; clear HB; rintro e w1 ⟨rfl, q, rfl⟩)
  go_ret
  exact ⟨rfl, O, H.out.keep fun k _ _ => rfl, ⟨rfl, rfl, rfl, Nat.le_refl _, fun _ _ _ => rfl⟩, fun k hk => .inl hk⟩
theorem Tab.frBox {W : World} {B t S P : Nat} {most next : Int} {hs : List Hd} {ps : List (Int × Int)} (h : Tab W B t S P most next hs ps) {x : Hd} (hx : x ∈ hs) : W.frozen? ⟨x.box, 0, none⟩ = false := frozen_of_row W x.box 0 _ 29 (h.box x hx).1
theorem pinsOk_put {ps : List (Int × Int)} {hl : HL} (h : PinsOk ps hl) {k n : Int} {l : List Int} (hk : Keyed' hl) (hx : getL hl k = some l) (hn : l.contains n = false) : PinsOk (putP ps n (pinOf ps n + 1)) (pinL hl k n) :=
  ⟨(put_keys ps n _ h.keys).1, fun m => by
    rw [pinOf_put, cnt_pin hk hx hn]
    split
    · rw [h.cnt]; omega
    · exact h.cnt m⟩
/-- Insert, and what the table is behind it. -/
def PinMid (W : World) (t S P : Nat) (most next : Int) (hs : List Hd) (ps : List (Int × Int)) (k n : Int) (x : Hd) (e : Ending) (w1 : World) : Prop :=
  ∃ A m c v', v' = .slice A m c ∧ e = .returned v' ∧ Tab (w1.setCell ⟨x.box, 0, none⟩ v') 0 t S P most next (setH hs k v' (ins x.l n)) ps ∧ w1.cell? ⟨x.box, 0, none⟩ = some x.v ∧ w1.frozen? ⟨x.box, 0, none⟩ = false ∧
    (∀ q, OwnT t S P (setH hs k v' (ins x.l n)) q → OwnT t S P hs q ∨ W.heap.size ≤ q) ∧ KeepS (OwnT t S P hs) W (w1.setCell ⟨x.box, 0, none⟩ v')
theorem pin_mid {W : World} {t S P : Nat} {most next : Int} {hs : List Hd} {ps : List (Int × Int)} (h : Tab W 0 t S P most next hs ps) (hk : Keyed' (absH hs)) {k : Int} {x : Hd} (hx : hdOf hs k = some x) (hl : x.l.length ≤ 99999) (n : Int) (hn : x.l.contains n = false) (q : Nat) :
    Calls Try.prog 31 #[x.v, .int .i64 ((x.l.countP (· < n) : Nat) : Int), .slice (some ⟨W.heap.size, 0, none⟩) 1 1] ((W.drewN q).alloc (.cells #[.int .i64 n] 3)) (PinMid W t S P most next hs ps k n x) := by
  have hm := (hdOf_mem hx).1
  have hg0 : Grows W ((W.drewN q).alloc (.cells #[.int .i64 n] 3)) := Below.alloc (⟨rfl, rfl, rfl, Nat.le_refl _, fun _ _ => rfl⟩ : Below W.heap.size W (W.drewN q)) (Nat.le_refl _) _
  have h0 := h.grows hg0
  have hn0 : ((W.drewN q).alloc (.cells #[.int .i64 n] 3)).heap[W.heap.size]? = some (.cells #[.int .i64 n] 3 (0, 0)) := heap_alloc_new (W.drewN q) _
  refine (insert_calls (h0.box x hm).2 (Nat.zero_le _) W.heap.size n hn0 (fun e => by have := own_lt (h.box x hm).2 _ e; omega) (by omega) _ (count_le _ _)).mono ?_
  rintro e w1 ⟨v', rfl, ho, hg, hloc⟩
  have hins : ins x.l n = x.l.take (x.l.countP (· < n)) ++ n :: x.l.drop (x.l.countP (· < n)) := by unfold ins; rw [if_neg (by rw [hn]; decide)]
  rw [← hins] at ho
  obtain ⟨r1, r2, r3⟩ := h0.rowTo hk hx hg ho hloc
  obtain ⟨A, c, ev, _⟩ := own_slice ho
  refine ⟨A, _, c, v', ev, rfl, r1, cell_of_row _ _ 0 _ 29 (0, 0) r2, frozen_of_row _ _ 0 _ 29 r2, fun q hq => (r3 q hq).imp id (fun h => Nat.le_trans hg0.size h), ?_⟩
  refine KeepS.trans (KeepS.of_grows hg0) (KeepS.trans (KeepS.of_grown hg fun q e => .inr (.inr (.inr ⟨x, hm, .inr e⟩))) (KeepS.of_grown (grown_set w1 x.box 0 v') fun q e => .inr (.inr (.inr ⟨x, hm, .inl (by injection e with e; exact e.symm)⟩))))
set_option maxRecDepth 100000 in
set_option maxHeartbeats 1000000 in
theorem pin_new_calls {W : World} {O : Nat → Prop} {t : Nat} {most next : Int} {hl : HL} (h : TabA W O t most next hl) (hb : ∀ x ∈ hl, x.2.length ≤ 99999) (hb2 : hl.length ≤ 100000) (k n : Int) {l : List Int} (hk : getL hl k = some l) (hn : l.contains n = false) :
    Calls Try.prog 13 #[.pointer (some ⟨t, 0, none⟩), .int .i64 k, .int .i64 n] W (TPost W O t most next (pinL hl k n) (.bool (getL hl k).isSome)) := by
  obtain ⟨S, P, hs, ps, h1, h2, h3, h4, h5⟩ := h
  have c2 := h1.c2
  have hlk := run_lookok_i Try.underlying48 Try.underlying3 zero55 h1.segs k
  obtain ⟨x, hd, hxl⟩ : ∃ x, hdOf hs k = some x ∧ x.l = l := by
    rw [← h2, hdOf_abs] at hk
    exact Option.map_eq_some_iff.1 hk
  subst hxl
  rw [look_S, hd] at hlk
  simp only [Option.map_some, Option.getD_some, Option.isSome_some] at hlk
  have hx := (hdOf_mem hd).1
  have e0 := h1.boxCell hx
  have hxm : (x.key, x.l) ∈ hl := by rw [← h2]; exact List.mem_map_of_mem hx
  have hlen : x.l.length ≤ 99999 := hb _ hxm
  have HB := Aside0.mk (bs_own (h1.box x hx).2 (h4.rise _ hxm) (by omega) n)
  rw [hn] at HB
  have hkd : Keyed' (absH hs) := by rw [h2]; exact h4.keyed
  have HM := Aside0.mk fun q => pin_mid h1 hkd hd hlen n hn q
  have HP := Aside0.mk (pinsOk_put h3 h4.keyed hk hn)
  have hcn : pinOf ps n = (cnt hl n : Int) := h3.cnt n
  have hcl := cnt_le hl n
  have hp0 : 0 ≤ pinOf ps n := by omega
  have hp1 : pinOf ps n ≤ 100000 := by omega
  have HA := Aside0.mk (fun v' => (by rw [setH_abs hkd hd, h2] : absH (setH hs k v' (ins x.l n)) = pinL hl k n))
  have HO := Aside0.mk (h4.pin k n)
  have H5 := Aside0.mk h5
  rw [hk]
  clear h1 h2 h3 h4 h5 hk hx hxm hn hb hkd hcn hcl hb2 hlen
  obtain ⟨xk, xb, xv, xl⟩ := x
  simp only at hlk e0 HB HM HA ⊢
  go_enter Try.func13, Try.ntmps13
  go_wp2_with (first | (go_at_call 30; refine HB.out.mono ?_; clear HB; rintro e w1 ⟨rfl, q, rfl⟩) | (go_at_call 31; refine (HM.out _).mono ?_; clear HM; rintro e w1 ⟨A, m, c, v', rfl, rfl, hT, e1, f1, hO, hK⟩; have c3 := hT.c3; have hl3 := run_look_i Try.underlying49 Try.underlying3 zero3 hT.pins n; rw [look_P] at hl3; obtain ⟨W4, hput, hm4, hg4⟩ := run_put_i Try.underlying49 Try.underlying3 hT.pins n (.int .i64 (pinOf ps n + 1)); rw [entP_put] at hm4; have HT := Aside0.mk (hT.pinsTo hg4 hm4); have HG4 := Aside0.mk hg4; have HO2 := Aside0.mk hO; have HK := Aside0.mk hK; clear hT hm4 hg4 hO hK))
  go_ret
  refine ⟨rfl, fun q => O q ∨ W.heap.size ≤ q, ⟨S, P, _, _, HT.out, HA.out _, HP.out, HO.out, fun q hq => (HO2.out q hq).imp (H5.out q) id⟩, ?_, fun q hq => hq⟩
  refine KeepS.trans (KeepS.mono HK.out fun q _ => H5.out q) (KeepS.of_grown (S := O) HG4.out fun q e => H5.out q (.inr (.inr (.inl (by injection e with e; exact e.symm)))))
theorem pin_calls {W : World} {O : Nat → Prop} {t : Nat} {most next : Int} {hl : HL} (h : TabA W O t most next hl) (hb : ∀ x ∈ hl, x.2.length ≤ 99999) (hb2 : hl.length ≤ 100000) (k n : Int) :
    Calls Try.prog 13 #[.pointer (some ⟨t, 0, none⟩), .int .i64 k, .int .i64 n] W (TPost W O t most next (pinL hl k n) (.bool (getL hl k).isSome)) := by
  cases hk : getL hl k with
  | none => have := pin_none h k n hk; rwa [hk] at this
  | some l =>
    cases hn : l.contains n with
    | true => have := pin_same_calls h hb k n hk hn; rwa [hk] at this
    | false => have := pin_new_calls h hb hb2 k n hk hn; rwa [hk] at this
end Go.Proofs.Ytdfjacpfmjgfiaa

/-
  Layer 17: a handle is there no more.
-/
namespace Go.Proofs.Ytdfjacpfmjgfiaa
set_option linter.unusedVariables false
set_option linter.unusedSimpArgs false
open Go.Shelf Go.RowKit Go.Proofs.YtdfjacpfmjgfiaaW.PrintWords Go.Proofs.YtdfjacpfmjgfiaaW.PrintMore
attribute [local go_sem] max2_int
theorem rises_nodup {l : List Int} (h : Rises l) : l.Nodup := List.Pairwise.imp (fun h => by omega) h
theorem count_rise {l : List Int} (h : Rises l) (m : Int) : l.count m = if l.contains m then 1 else 0 := by
  rw [List.Nodup.count (rises_nodup h)]; simp
theorem adel_split : ∀ {A B : List Hd} {x : Hd}, (∀ y ∈ A, y.key ≠ x.key) → adel (entS (A ++ x :: B)) x.key = entS (A ++ B)
  | [], B, x, h => by
    show (if x.key = x.key then entS B else _) = _
    rw [if_pos rfl]; rfl
  | a :: A, B, x, h => by
    show (if a.key = x.key then _ else _ :: adel (entS (A ++ x :: B)) x.key) = _
    rw [if_neg (h a (by simp)), adel_split fun y hy => h y (List.mem_cons_of_mem _ hy)]
    rfl
theorem Tab.segsTo {W W' : World} {B t S P : Nat} {most next : Int} {hs hs' : List Hd} {ps : List (Int × Int)} (h : Tab W B t S P most next hs ps) (hg : W.grownBy W' (some S)) (hm : IMap W' S (entS hs')) (hsub : List.Sublist hs' hs) : Tab W' B t S P most next hs' ps := by
  have hne : ∀ (k : Nat) (cs : Array Value) (T : TypeId) (fr : Nat × Nat), W.heap[k]? = some (.cells cs T fr) → k ≠ S := fun k cs T fr ho e => map_not_cells h.segs (show W.heap[S]? = some (.cells cs T fr) by rw [← e]; exact ho)
  refine ⟨(hg.block t (lt_heap h.blk) (fun e => hne t _ _ _ h.blk (Option.some.inj e))).trans h.blk, hm, h.pins.keep (hg.block P h.pins.lt (fun e => h.SP (Option.some.inj e).symm)), fun x hx => ?_, List.Pairwise.sublist hsub h.apart, h.SP⟩
  have hb := h.box x (hsub.subset hx)
  refine ⟨(hg.block _ (lt_heap hb.1) (fun e => hne _ _ _ _ hb.1 (Option.some.inj e))).trans hb.1, own_move hb.2 fun k hk => ?_⟩
  obtain ⟨cs, hcs⟩ := own_typed hb.2 k hk
  exact hg.block k (lt_heap hcs) (fun e => hne _ _ _ _ hcs (Option.some.inj e))
/-- The pins when so many of a handle's segments are loose. -/
structure Loose (ps : List (Int × Int)) (hl : HL) (l : List Int) (k : Nat) : Prop where
  keys : (ps.map (·.1)).Nodup
  cnt : ∀ m, pinOf ps m = (cnt hl m : Int) - ((l.take k).count m : Int)
theorem own_cell {W : World} {B : Nat} {v : Value} {xs : List Int} (ho : W.ownsRow B 3 1 v xs.length (nums .i64 xs)) {i : Nat} (hi : i < xs.length) : ∃ b c, v = .slice (some ⟨b, 0, none⟩) xs.length c ∧ xs.length ≤ c ∧ W.cell? ⟨b, i, none⟩ = some (.int .i64 xs[i]) := by
  rcases ho.2 with ⟨_, h0⟩ | ⟨b, cap, cur, rfl, hBb, hb, hc, hcm, hcs, hcur⟩
  · omega
  · refine ⟨b, cap, rfl, hc, ?_⟩
    rw [Nat.mul_one] at hcur
    rw [cell_of_row W b i cur 3 (0, 0) hb, ← Array.getElem?_toList]
    have h2 : (cur.toList.take xs.length)[i]? = cur.toList[i]? := by rw [List.getElem?_take, if_pos hi]
    rw [← h2, hcur]
    simp [nums, List.getElem?_eq_getElem hi]
set_option maxRecDepth 100000 in
set_option maxHeartbeats 1000000 in
theorem close_calls {W : World} {O : Nat → Prop} {t : Nat} {most next : Int} {hl : HL} (h : TabA W O t most next hl) (hb : ∀ x ∈ hl, x.2.length ≤ 100000) (hb2 : hl.length ≤ 100000) (k : Int) :
    Calls Try.prog 15 #[.pointer (some ⟨t, 0, none⟩), .int .i64 k] W (TPost W O t most next (delL hl k) (.bool (getL hl k).isSome)) := by
  have hh := h
  obtain ⟨S, P, hs, ps, h1, h2, h3, h4, h5⟩ := hh
  have c2 := h1.c2
  have hlk := run_lookok_i Try.underlying48 Try.underlying3 zero55 h1.segs k
  cases hk : getL hl k with
  | none =>
    have hd : hdOf hs k = none := by
      rw [← h2, hdOf_abs] at hk
      cases hd : hdOf hs k with
      | none => rfl
      | some x => rw [hd] at hk; cases hk
    rw [look_S, hd] at hlk
    simp only [Option.map_none, Option.getD_none, Option.isSome_none] at hlk
    have H := Aside0.mk h
    rw [delL_none hk]
    clear h h1 h2 h3 h4 h5 hd hk hb hb2
    go_enter Try.func15, Try.ntmps15
    go_wp2
    go_ret
    exact ⟨rfl, O, H.out, KeepS.refl _ _, fun k hk => .inl hk⟩
  | some l =>
    obtain ⟨x, hd, hxl⟩ : ∃ x, hdOf hs k = some x ∧ x.l = l := by
      rw [← h2, hdOf_abs] at hk
      exact Option.map_eq_some_iff.1 hk
    subst hxl
    rw [look_S, hd] at hlk
    simp only [Option.map_some, Option.getD_some, Option.isSome_some] at hlk
    have hx := (hdOf_mem hd).1
    have e0 := h1.boxCell hx
    have hxm : (x.key, x.l) ∈ hl := by rw [← h2]; exact List.mem_map_of_mem hx
    have hlen : x.l.length ≤ 100000 := hb _ hxm
    have hkd : Keyed' (absH hs) := by rw [h2]; exact h4.keyed
    obtain ⟨A, B, hAB, hxk, hA1, hB1⟩ := split_hd hkd hd
    obtain ⟨Ad, cc, ev, hcc⟩ := own_slice (h1.box x hx).2
    have H1 := Aside0.mk h1
    have H2 := Aside0.mk h2
    have H3 := Aside0.mk h3
    have H4 := Aside0.mk h4
    have H5 := Aside0.mk h5
    have HK := Aside0.mk hk
    have HX := Aside0.mk hx
    have HAB := Aside0.mk (And.intro hAB (And.intro hxk (And.intro hA1 hB1)))
    have HR := Aside0.mk (h4.rise _ hxm)
    clear h h1 h2 h3 h4 h5 hk hx hxm hb hkd hAB hxk hA1 hB1 hd
    obtain ⟨xk, xb, xv, xl⟩ := x
    simp only at hlk e0 hlen HR ev ⊢
    subst ev
    go_enter Try.func15, Try.ntmps15
    go_wp2
    go_loopg [24] xl.length (fun f v24 wr => ∃ i : Nat, Aside0 (f + i = xl.length) ∧ i ≤ xl.length ∧ v24 = .int .i64 i ∧ Aside0 (∃ ps', Tab wr 0 t S P most next hs ps' ∧ Loose ps' hl xl i ∧ W.grownBy wr (some P)))
    case atStart =>
      exact ⟨0, ⟨by omega⟩, by omega, rfl, ⟨ps, H1.out, ⟨H3.out.keys, fun m => by rw [H3.out.cnt]; simp⟩, World.grownBy.refl _ _⟩⟩
    case round =>
      obtain ⟨i, HF, hi, rfl, HS⟩ := hrel
      obtain ⟨ps', hT, hL, hG⟩ := HS.out
      by_cases hlt : i < xl.length
      · obtain ⟨b, c, ev2, _, hcell⟩ := own_cell (hT.box _ HX.out).2 hlt
        injection ev2 with ev2 _ ev3
        subst ev2
        subst ev3
        have hbd : -1000000 ≤ pinOf ps' xl[i] ∧ pinOf ps' xl[i] ≤ 1000000 := by
          rw [hL.cnt]
          have h1 := cnt_le hl xl[i]
          have h2 := List.count_le_length (a := xl[i]) (l := xl.take i)
          have h3 := List.length_take_le i xl
          omega
        have HC := Aside0.mk (loose_calls hT hL.keys xl[i] hbd.1 hbd.2)
        have HL := Aside0.mk hL
        have HG := Aside0.mk hG
        have hts := List.take_succ_eq_append_getElem hlt
        obtain ⟨n, hn⟩ : ∃ n, xl[i] = n := ⟨_, rfl⟩
        rw [hn] at hcell HC hts
        have HT := Aside0.mk hts
        clear HS hT hL hG hbd hn hts
        go_wp2_with (go_at_call 34; refine HC.out.mono ?_; clear HC; rintro e w1 ⟨rfl, ps2, hT2, hk2, hp2, hg2⟩; have HT2 := Aside0.mk hT2; have HK2 := Aside0.mk hk2; have HP2 := Aside0.mk hp2; have HG2 := Aside0.mk hg2; clear hT2 hk2 hp2 hg2)
        go_roundg (xl.length - (i + 1))
        case measure => have := HF.out; omega
        case rel =>
          refine ⟨i + 1, ⟨by omega⟩, by omega, by go_num, ⟨ps2, HT2.out, ⟨HK2.out, fun m => ?_⟩, grown_trans HG.out HG2.out⟩⟩
          rw [HP2.out, HT.out, List.count_append, HL.out.cnt, HL.out.cnt]
          by_cases hm : m = n
          · rw [if_pos hm, hm, List.count_singleton_self]; omega
          · rw [if_neg hm, List.count_singleton, if_neg (by simpa using fun e : n = m => hm e.symm)]; omega
      · obtain rfl : i = xl.length := by omega
        have c2' := hT.c2
        obtain ⟨W2, hdel, hm2, hg2⟩ := run_del_i (P := Try.prog) (T := 48) (K := 3) (E := 55) Try.underlying48 Try.underlying3 0 hT.segs k
        obtain ⟨hAB, hxk, hA1, hB1⟩ := HAB.out
        have ha : adel (entS hs) k = entS (A ++ B) := by
          rw [hAB, ← hxk]
          exact adel_split fun y hy => by rw [hxk]; exact hA1 y hy
        rw [ha] at hm2
        have hT2 := hT.segsTo hg2 hm2 (by rw [hAB]; exact List.Sublist.append_left (List.sublist_cons_self _ _) _)
        have habs : absH (A ++ B) = delL hl k := by
          rw [← H2.out, hAB, absH_app, absH_app, ← hxk]
          exact (delL_split (absH_ne fun y hy => by rw [hxk]; exact hA1 y hy) (absH_ne fun y hy => by rw [hxk]; exact hB1 y hy)).symm
        have hpin : PinsOk ps' (delL hl k) := ⟨hL.keys, fun m => by
          have h1 := cnt_del H4.out.keyed HK.out m
          rw [hL.cnt, List.take_length, count_rise HR.out, h1]
          show _ = ((cnt (delL hl k) m : Nat) : Int)
          show ((cnt (delL hl k) m + (if xl.contains m = true then 1 else 0) : Nat) : Int) - _ = _
          split <;> omega⟩
        have HF := Aside0.mk (show TPost W O t most next (delL hl k) (.bool true) (.returned (.bool true)) W2 from
          ⟨rfl, O, ⟨S, P, A ++ B, ps', hT2, habs, hpin, H4.out.del k, fun q hq => H5.out q (by
            rcases hq with rfl | rfl | rfl | ⟨y, hy, hq⟩
            · exact .inl rfl
            · exact .inr (.inl rfl)
            · exact .inr (.inr (.inl rfl))
            · refine .inr (.inr (.inr ⟨y, ?_, hq⟩))
              rw [hAB]
              rcases List.mem_append.1 hy with hy | hy
              · simp [hy]
              · simp [hy])⟩, KeepS.trans (KeepS.of_grown (S := O) hG fun q e => H5.out q (.inr (.inr (.inl (by injection e with e; exact e.symm))))) (KeepS.of_grown (S := O) hg2 fun q e => H5.out q (.inr (.inl (by injection e with e; exact e.symm)))), fun q hq => .inl hq⟩)
        clear HS hT hL hG hm2 hg2 hT2 habs hpin ha hAB hxk hA1 hB1
        go_wp2
        go_ret
        exact HF.out
end Go.Proofs.Ytdfjacpfmjgfiaa

/-
  Layer 17: a new handle, that pins such segments.
-/
namespace Go.Proofs.Ytdfjacpfmjgfiaa
set_option linter.unusedVariables false
set_option linter.unusedSimpArgs false
open Go.Shelf Go.RowKit Go.Proofs.YtdfjacpfmjgfiaaW.PrintWords Go.Proofs.YtdfjacpfmjgfiaaW.PrintMore
attribute [local go_sem] max2_int
/-- A row of whole numbers, none of whose cells is one of O's. -/
def ReadsO (W : World) (O : Nat → Prop) (A : Option Addr) (n : Nat) (xs : List Int) : Prop := ReadsInt W .i64 A n xs ∧ ∀ ad, A = some ad → 0 < n → ¬ O ad.block
theorem add_block (a : Addr) (j : Nat) : (a.add j).block = a.block := by unfold Addr.add; split <;> rfl
theorem ReadsO.lt {W : World} {O : Nat → Prop} {A : Option Addr} {n : Nat} {xs : List Int} (h : ReadsO W O A n xs) {ad : Addr} (e : A = some ad) (h0 : 0 < n) : ad.block < W.heap.size := by
  obtain ⟨ad', e', hc⟩ := h.1.2.2 h0
  obtain rfl : ad' = ad := by rw [e] at e'; injection e' with e'; exact e'.symm
  have := World.block_lt_of_cell? W (ad'.add 0) (hc 0 h0)
  rwa [add_block] at this
theorem ReadsO.keep {W W' : World} {O O' : Nat → Prop} {A : Option Addr} {n : Nat} {xs : List Int} (h : ReadsO W O A n xs) (hk : KeepS O W W') (ho : ∀ k, O' k → O k ∨ W.heap.size ≤ k) : ReadsO W' O' A n xs := by
  refine ⟨⟨h.1.1, h.1.2.1, fun h0 => ?_⟩, fun ad e h0 hO => ?_⟩
  · obtain ⟨ad, e, hc⟩ := h.1.2.2 h0
    refine ⟨ad, e, fun j hj => ?_⟩
    rw [← hc j hj]
    exact World.cell?_of_block (hk.block _ (by rw [add_block]; exact h.lt e h0) (by rw [add_block]; exact h.2 ad e h0))
  · have := h.lt e h0
    rcases ho _ hO with h1 | h1
    · exact h.2 ad e h0 h1
    · omega
def insAll (l : List Int) : List Int → List Int
  | [] => l
  | n :: r => insAll (ins l n) r
theorem insAll_app : ∀ (a b : List Int) (l : List Int), insAll l (a ++ b) = insAll (insAll l a) b
  | [], _, _ => rfl
  | n :: a, b, l => insAll_app a b (ins l n)
theorem insAll_len : ∀ (a : List Int) (l : List Int), (insAll l a).length ≤ l.length + a.length
  | [], l => by simp [insAll]
  | n :: a, l => by
    have h1 := insAll_len a (ins l n)
    have h2 := (ins_len l n).1
    rw [insAll, List.length_cons]; omega
theorem insAll_rise : ∀ (a : List Int) {l : List Int}, Rises l → Rises (insAll l a)
  | [], _, h => h
  | n :: a, _, h => insAll_rise a (rises_ins h)
theorem mem_insAll : ∀ (a : List Int) {l : List Int} {x : Int}, x ∈ insAll l a ↔ x ∈ a ∨ x ∈ l
  | [], _, _ => by simp [insAll]
  | n :: a, l, x => by
    rw [insAll, mem_insAll a, mem_ins, List.mem_cons]
    constructor
    · rintro (h | h | h)
      · exact .inl (.inr h)
      · exact .inl (.inl h)
      · exact .inr h
    · rintro ((h | h) | h)
      · exact .inr (.inl h)
      · exact .inl h
      · exact .inr (.inr h)
theorem pinL_last {next : Int} {hl : HL} (h : HOk next hl) (l : List Int) (n : Int) : pinL (hl ++ [(next, l)]) next n = hl ++ [(next, ins l n)] :=
  pinL_split (fun y hy e => by have := (h.low y hy).2; omega) (fun y hy => by cases hy)
theorem aput_new : ∀ (hs : List Hd) (k : Int) (v : Value), (∀ x ∈ hs, x.key ≠ k) → aput (entS hs) k v = entS hs ++ [(k, v)]
  | [], _, _, _ => rfl
  | x :: hs, k, v, h => by
    show (if x.key = k then _ else _ :: aput (entS hs) k v) = _
    rw [if_neg (h x (by simp)), aput_new hs k v fun y hy => h y (List.mem_cons_of_mem _ hy)]
    rfl
theorem cnt_new (hl : HL) (k : Int) (n : Int) : cnt (hl ++ [(k, [])]) n = cnt hl n := by rw [cnt_app, cnt_cons]; simp [cnt]
/-- The table with a new handle in it. -/
theorem Tab.newTo {W W' : World} {t S P : Nat} {most next : Int} {hs : List Hd} {ps : List (Int × Int)} (h : Tab W 0 t S P most next hs ps) (g b : Nat) (c : Array Value) (hgb : W.heap.size ≤ g) (hbb : W.heap.size ≤ b) (hne : g ≠ b)
    (hk : ∀ k, k < W.heap.size → k ≠ t → k ≠ S → W'.heap[k]? = W.heap[k]?) (ht : W'.heap[t]? = some (.cells #[.int .i64 most, .int .i64 (next + 1), .map (some S), .map (some P)] 51 (0, 0)))
    (hS : IMap W' S (entS (hs ++ [⟨next, b, .slice (some ⟨g, 0, none⟩) 0 0, []⟩]))) (hg : W'.heap[g]? = some (.cells #[] 3 (0, 0))) (hb : W'.heap[b]? = some (.cells #[.slice (some ⟨g, 0, none⟩) 0 0] 29 (0, 0))) :
    Tab W' 0 t S P most (next + 1) (hs ++ [⟨next, b, .slice (some ⟨g, 0, none⟩) 0 0, []⟩]) ps := by
  have hcell : ∀ (k : Nat) (cs : Array Value) (T : TypeId), W.heap[k]? = some (.cells cs T (0, 0)) → T ≠ 51 → W'.heap[k]? = some (.cells cs T (0, 0)) := fun k cs T hkc hT => (hk k (lt_heap hkc) (fun e => by
      have := h.blk; rw [← e, hkc] at this; injection this with this; injection this with _ this; exact hT this) (fun e => map_not_cells h.segs (show W.heap[S]? = some (.cells cs T (0, 0)) by rw [← e]; exact hkc))).trans hkc
  refine ⟨ht, hS, ?_, ?_, ?_, h.SP⟩
  · refine h.pins.keep (hk P h.pins.lt (fun e => ?_) (fun e => h.SP e.symm))
    exact map_not_cells h.pins (show W.heap[P]? = some _ by rw [e]; exact h.blk)
  · intro x hx
    rcases List.mem_append.1 hx with hx | hx
    · have hb := h.box x hx
      refine ⟨hcell _ _ _ hb.1 (by decide), own_move hb.2 fun k hk2 => ?_⟩
      obtain ⟨cs, hcs⟩ := own_typed hb.2 k hk2
      rw [hcell k cs 3 hcs (by decide), hcs]
    · obtain rfl := List.mem_singleton.1 hx
      exact ⟨hb, ⟨rfl, .inr ⟨g, 0, #[], rfl, Nat.zero_le _, hg, Nat.le_refl _, by decide, rfl, rfl⟩⟩⟩
  · refine List.pairwise_append.2 ⟨h.apart, List.pairwise_singleton _ _, fun x hx y hy => ?_⟩
    obtain rfl := List.mem_singleton.1 hy
    have hb := h.box x hx
    refine ⟨fun e => by have := lt_heap hb.1; simp at e; omega, fun k e e2 => ?_⟩
    have h1 := own_lt hb.2 k e
    have h2 : some g = some k := e2
    injection h2 with h2
    omega
theorem KeepS.through {O O' : Nat → Prop} {a b c : World} (h : KeepS O a b) (ho : ∀ k, O' k → O k ∨ a.heap.size ≤ k) (k : KeepS O' b c) : KeepS O a c :=
  ⟨k.os.trans h.os, k.tape.trans h.tape, k.output.trans h.output, Nat.le_trans h.size k.size, fun i hi hO =>
    (k.block i (Nat.lt_of_lt_of_le hi h.size) fun h2 => (ho i h2).elim hO fun h3 => by omega).trans (h.block i hi hO)⟩
set_option maxRecDepth 100000 in
set_option maxHeartbeats 1000000 in
theorem open_full {W : World} {O : Nat → Prop} {t : Nat} {most next : Int} {hl : HL} (h : TabA W O t most next hl) (hf : most ≤ hl.length) (v : Value) :
    Calls Try.prog 17 #[.pointer (some ⟨t, 0, none⟩), v] W (TPost W O t most next hl (.tuple #[.int .i64 0, .int .i64 5])) := by
  have hh := h
  obtain ⟨S, P, hs, ps, h1, h2, h3, h4, h5⟩ := hh
  have c0 := h1.c0
  have c1 := h1.c1
  have c2 := h1.c2
  obtain ⟨a, c, hb, hn⟩ := h1.segs.len
  have hn2 : a.size = hs.length := by rw [hn]; simp [entS]
  have hl2 : hs.length = hl.length := by rw [← h2]; simp [absH]
  have hlen : ∀ m, (Builtin.len_ #[48] 3 #[.map (some S)]).run Try.prog (W.drewN m) = .ok (.int .i64 hs.length) (W.drewN m) := fun m => by
    have hb2 : (W.drewN m).heap[S]? = some (.map a c) := hb
    simp [Builtin.len_, run_underlying Try.underlying48, Go.MapKept.run_getObj_map hb2, hn2, goInt]
  have hd : decide (most ≤ (hs.length : Int)) = true := by simp; omega
  have H := Aside0.mk h
  clear h h1 h2 h3 h4 h5 hb hn hn2 hl2 hf
  go_enter Try.func17, Try.ntmps17
  go_wp2
  go_quiet (fail)
  go_wp2
  go_ret2
  exact ⟨rfl, O, H.out.keep fun k _ _ => rfl, ⟨rfl, rfl, rfl, Nat.le_refl _, fun _ _ _ => rfl⟩, fun k hk => .inl hk⟩
set_option maxRecDepth 100000 in
set_option maxHeartbeats 1000000 in
theorem open_calls {W : World} {O : Nat → Prop} {t : Nat} {most next : Int} {hl : HL} (h : TabA W O t most next hl) (hf : hl.length < most) (hb : ∀ x ∈ hl, x.2.length ≤ 50000) (hb2 : hl.length ≤ 50000) (h1n : 1 ≤ next) (hn40 : next ≤ 1000000) {A : Option Addr} {m c : Nat} {xs : List Int} (hr : ReadsO W O A m xs) (hm : m ≤ 40000) :
    Calls Try.prog 17 #[.pointer (some ⟨t, 0, none⟩), .slice A m c] W (TPost W O t most (next + 1) (hl ++ [(next, insAll [] xs)]) (.tuple #[.int .i64 next, .int .i64 0])) := by
  obtain ⟨S, P, hs, ps, h1, h2, h3, h4, h5⟩ := h
  have c0 := h1.c0
  have c1 := h1.c1
  have c2 := h1.c2
  have f1 := h1.fr 1
  obtain ⟨a, cl, hbk, hn⟩ := h1.segs.len
  have hn2 : a.size = hs.length := by rw [hn]; simp [entS]
  have hl2 : hs.length = hl.length := by rw [← h2]; simp [absH]
  have hlen : ∀ m, (Builtin.len_ #[48] 3 #[.map (some S)]).run Try.prog (W.drewN m) = .ok (.int .i64 hs.length) (W.drewN m) := fun m => by
    have hb2 : (W.drewN m).heap[S]? = some (.map a cl) := hbk
    simp [Builtin.len_, run_underlying Try.underlying48, Go.MapKept.run_getObj_map hb2, hn2, goInt]
  have hd : decide (most ≤ (hs.length : Int)) = false := by simp; omega
  have hd2 : decide (1099511627776 < next) = false := by simp; omega
  have H1 := Aside0.mk h1
  have H2 := Aside0.mk h2
  have H3 := Aside0.mk h3
  have H4 := Aside0.mk h4
  have H5 := Aside0.mk h5
  have hR0 := hr.1
  have HR := Aside0.mk hr
  have HB := Aside0.mk hb
  clear h1 h2 h3 h4 h5 hbk hn hn2 hl2 hr hb
  go_enter Try.func17, Try.ntmps17
  go_wp2
  go_quiet (fail)
  go_upto_region 5 with fail
  have hkeep : ∀ k, k ≠ t → ((W.drewN nq).setCell ⟨t, 1, none⟩ (Value.int .i64 (next + 1))).heap[k]? = W.heap[k]? := fun k hk => Below.heap_setCell (W.drewN nq) ⟨t, 1, none⟩ _ k hk
  have hblk : ((W.drewN nq).setCell ⟨t, 1, none⟩ (Value.int .i64 (next + 1))).heap[t]? = some (.cells #[.int .i64 most, .int .i64 (next + 1), .map (some S), .map (some P)] 51 (0, 0)) := heap_spl t [Value.int .i64 (next + 1)] 1 (W.drewN nq) _ H1.out.blk
  have hsz : ((W.drewN nq).setCell ⟨t, 1, none⟩ (Value.int .i64 (next + 1))).heap.size = W.heap.size := by rw [World.size_setCell]; rfl
  have hgr : KeepS (fun k => k = t) W ((W.drewN nq).setCell ⟨t, 1, none⟩ (Value.int .i64 (next + 1))) := ⟨rfl, rfl, rfl, by rw [hsz]; exact Nat.le_refl _, fun k _ hk => hkeep k hk⟩
  generalize ((W.drewN nq).setCell ⟨t, 1, none⟩ (Value.int .i64 (next + 1))) = W1 at hkeep hblk hsz hgr ⊢
  have c2' : W1.cell? ⟨t, 2, none⟩ = some (.map (some S)) := cell_of_row W1 t 2 _ 51 (0, 0) hblk
  have htS : S ≠ t := fun e => map_not_cells H1.out.segs (show W.heap[S]? = some _ by rw [e]; exact H1.out.blk)
  have n1 := heap_alloc_new W1 (.cells #[] 3)
  have n2 := heap_alloc_new (W1.alloc (.cells #[] 3)) (.cells #[.slice (some ⟨W1.heap.size, 0, none⟩) 0 0] 29)
  have s2 : (W1.alloc (.cells #[] 3)).heap.size = W1.heap.size + 1 := by show (W1.heap.push _).size = _; rw [Array.size_push]
  rw [s2] at n2
  have g2 : Grows W1 ((W1.alloc (.cells #[] 3)).alloc (.cells #[.slice (some ⟨W1.heap.size, 0, none⟩) 0 0] 29)) := ((Below.refl W1.heap.size W1).alloc (Nat.le_refl _) _).alloc (by omega) _
  have n1' : ((W1.alloc (.cells #[] 3)).alloc (.cells #[.slice (some ⟨W1.heap.size, 0, none⟩) 0 0] 29)).heap[W1.heap.size]? = some (.cells #[] 3 (0, 0)) := (heap_alloc_old (W1.alloc (.cells #[] 3)) _ (by omega)).trans n1
  have hS3 : IMap ((W1.alloc (.cells #[] 3)).alloc (.cells #[.slice (some ⟨W1.heap.size, 0, none⟩) 0 0] 29)) S (entS hs) := H1.out.segs.keep ((g2.block S (by rw [hsz]; exact H1.out.segs.lt)).trans (hkeep S htS))
  obtain ⟨W4, hput, hm4, hg4⟩ := run_put_i Try.underlying48 Try.underlying3 hS3 next (.pointer (some ⟨W1.heap.size + 1, 0, none⟩))
  have hkn : ∀ x ∈ hs, x.key ≠ next := fun x hx e => by
    have := (H4.out.low (x.key, x.l) (by rw [← H2.out]; exact List.mem_map_of_mem hx)).2
    simp at this
    omega
  rw [aput_new hs next _ hkn] at hm4
  have hS4 : ∀ k, k < W.heap.size + 2 → k ≠ S → W4.heap[k]? = ((W1.alloc (.cells #[] 3)).alloc (.cells #[.slice (some ⟨W1.heap.size, 0, none⟩) 0 0] 29)).heap[k]? := fun k hk hne => hg4.block k (by show k < ((W1.alloc (.cells #[] 3)).heap.push _).size; rw [Array.size_push, s2]; omega) (fun e => hne (by injection e))
  have hSlt := H1.out.segs.lt
  have hT4 : Tab W4 0 t S P most (next + 1) (hs ++ [⟨next, W1.heap.size + 1, .slice (some ⟨W1.heap.size, 0, none⟩) 0 0, []⟩]) ps := by
    refine H1.out.newTo W1.heap.size (W1.heap.size + 1) #[] (by omega) (by omega) (by omega) (fun k hk h1 h2 => ?_) ?_ (by simpa [entS] using hm4) ?_ ?_
    · exact (hS4 k (by omega) h2).trans ((g2.block k (by omega)).trans (hkeep k h1))
    · have := lt_heap H1.out.blk
      exact (hS4 t (by omega) (fun e => htS e.symm)).trans ((g2.block t (by omega)).trans hblk)
    · exact (hS4 W1.heap.size (by omega) (by omega)).trans n1'
    · exact (hS4 (W1.heap.size + 1) (by omega) (by omega)).trans n2
  have hA4 : TabA W4 (fun k => O k ∨ W.heap.size ≤ k) t most (next + 1) (hl ++ [(next, [])]) := by
    refine ⟨S, P, _, ps, hT4, by rw [absH_app, H2.out]; rfl, ⟨H3.out.keys, fun m => by rw [cnt_new]; exact H3.out.cnt m⟩, H4.out.open h1n [] List.Pairwise.nil, ?_⟩
    rintro k (rfl | rfl | rfl | ⟨x, hx, hq⟩)
    · exact .inl (H5.out _ (.inl rfl))
    · exact .inl (H5.out _ (.inr (.inl rfl)))
    · exact .inl (H5.out _ (.inr (.inr (.inl rfl))))
    · rcases List.mem_append.1 hx with hx | hx
      · exact .inl (H5.out _ (.inr (.inr (.inr ⟨x, hx, hq⟩))))
      · obtain rfl := List.mem_singleton.1 hx
        rcases hq with rfl | hq
        · exact .inr (by show W.heap.size ≤ W1.heap.size + 1; omega)
        · right
          have h2 : some W1.heap.size = some k := hq
          injection h2 with h2
          omega
  have hK4 : KeepS O W W4 := by
    refine KeepS.trans (KeepS.mono hgr fun k _ e => H5.out k (.inl e)) (KeepS.trans (KeepS.of_grows g2) (KeepS.of_grown hg4 fun k e => H5.out k (.inr (.inl (by injection e with e; exact e.symm)))))
  have HA4 := Aside0.mk hA4
  have HK4 := Aside0.mk hK4
  obtain ⟨hxl, hm63, _⟩ := hR0
  have HXL := Aside0.mk hxl
  clear hkeep hblk hsz hgr htS n1 n2 s2 g2 n1' hS3 hm4 hg4 hkn hS4 hSlt hT4 hA4 hK4 hxl c0 c1 c2 f1 hlen hd hd2
  go_wp2
  go_loopg [46] m (fun f v46 wr => ∃ i : Nat, Aside0 (f + i = m) ∧ i ≤ m ∧ v46 = .int .i64 i ∧ Aside0 (∃ O', TabA wr O' t most (next + 1) (hl ++ [(next, insAll [] (xs.take i))]) ∧ KeepS O W wr ∧ ∀ k, O' k → O k ∨ W.heap.size ≤ k))
  case atStart => exact ⟨0, ⟨by omega⟩, by omega, rfl, ⟨_, HA4.out, HK4.out, fun k hk => hk⟩⟩
  case round =>
    obtain ⟨i, HF, hi, rfl, HS⟩ := hrel
    by_cases hlt : i < m
    · obtain ⟨O', hA, hK, hO⟩ := HS.out
      have hrd := HR.out.keep hK hO
      obtain ⟨ad, rfl, hcell⟩ := hrd.1.2.2 (by omega)
      replace hcell := hcell i hlt
      have hts := List.take_succ_eq_append_getElem (l := xs) (show i < xs.length by rw [HXL.out]; exact hlt)
      have hgd : xs.getD i 0 = xs[i]'(by rw [HXL.out]; exact hlt) := by rw [List.getD_eq_getElem?_getD, List.getElem?_eq_getElem (by rw [HXL.out]; exact hlt)]; rfl
      rw [← hgd] at hts
      generalize xs.getD i 0 = n at hcell hts
      have hlen2 := insAll_len (xs.take i) []
      have htl := List.length_take_le i xs
      have HC := Aside0.mk (pin_calls hA (fun x hx => by
        rcases List.mem_append.1 hx with hx | hx
        · have := HB.out x hx; omega
        · obtain rfl := List.mem_singleton.1 hx
          show (insAll [] (xs.take i)).length ≤ 99999
          simp at hlen2
          omega) (by rw [List.length_append]; simp; omega) next n)
      rw [pinL_last H4.out] at HC
      have HTS := Aside0.mk hts
      have HK := Aside0.mk hK
      have HO := Aside0.mk hO
      clear HS hA hK hO hrd hts hgd hlen2 htl
      go_wp2_with (go_at_call 13; refine HC.out.mono ?_; clear HC; rintro e w1 ⟨rfl, O2, hA2, hK2, hO2⟩; have HA2 := Aside0.mk hA2; have HK2 := Aside0.mk hK2; have HO2 := Aside0.mk hO2; clear hA2 hK2 hO2)
      go_roundg (m - (i + 1))
      case measure => have := HF.out; omega
      case rel =>
        refine ⟨i + 1, ⟨by omega⟩, by omega, by go_num, ⟨O2, ?_, ?_, ?_⟩⟩
        · rw [HTS.out, insAll_app]; exact HA2.out
        · exact KeepS.through HK.out HO.out HK2.out
        · exact fun k hk => (HO2.out k hk).elim (HO.out k) fun h => .inr (Nat.le_trans HK.out.size h)
    · obtain rfl : i = m := by omega
      obtain ⟨O', hA, hK, hO⟩ := HS.out
      rw [List.take_of_length_le (by rw [HXL.out]; exact Nat.le_refl _)] at hA
      have HE := Aside0.mk (And.intro hA (And.intro hK hO))
      clear HS hA hK hO
      go_wp2
      go_ret2
      exact ⟨rfl, O', HE.out⟩
end Go.Proofs.Ytdfjacpfmjgfiaa
