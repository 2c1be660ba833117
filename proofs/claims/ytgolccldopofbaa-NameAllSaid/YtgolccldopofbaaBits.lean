/-
  A local array of 65536 Booleans, and the numbers of names: plain.
-/
import Derived.Test.YtgolccldopofbaaPureNameTells
namespace Go.Proofs.Ytgolccldopofbaa
set_option linter.unusedVariables false
set_option linter.unusedSimpArgs false
open Go.RowKit Go.Proofs.YtgolccldopofbaaW.PrintWords

def isFalse : Value → Bool
  | .bool b => !b
  | _ => false
theorem z35_false : (((Try.prog.info? 35).bind (fun i => i.zero)).map (fun z => z.cells.toList.all isFalse)) = some true := by kernel_rfl
theorem z35_size : (((Try.prog.info? 35).bind (fun i => i.zero)).map (fun z => z.cells.size)) = some 65536 := by decide +kernel
/-- What makes the array. -/
theorem alloc35 : ∃ cs : Array Value, cs.size = 65536 ∧ (∀ i, i < 65536 → cs[i]? = some (.bool false)) ∧ ∀ w : World, (Instr.alloc 35 true (.tuple #[])).run Try.prog w = .ok (.pointer (some ⟨w.heap.size, 0, none⟩)) (w.alloc (.cells cs 35)) := by
  obtain ⟨z, hz, hf⟩ := Option.map_eq_some_iff.1 z35_false
  obtain ⟨z', hz', hs⟩ := Option.map_eq_some_iff.1 z35_size
  obtain rfl : z = z' := Option.some.inj (hz.symm.trans hz')
  obtain ⟨i, hi, hiz⟩ := Option.bind_eq_some_iff.1 hz
  refine ⟨z.cells, hs, fun k hk => ?_, fun w => ?_⟩
  · rw [List.all_eq_true] at hf
    have hk' : k < z.cells.size := by omega
    rw [Array.getElem?_eq_getElem hk']
    have := hf z.cells[k] (by rw [Array.mem_toList_iff]; exact Array.getElem_mem hk')
    generalize z.cells[k] = v at this
    unfold isFalse at this
    split at this
    · rename_i b; cases b
      · rfl
      · cases this
    · cases this
  · simp [Instr.alloc, zeroValue, typeInfo, hi, hiz, newVar, newRow]
/-- The array tells which numbers were seen. -/
def Bits (W : World) (H : Nat) (seen : List Int) : Prop :=
  ∃ cs : Array Value, W.heap[H]? = some (.cells cs 35 (0, 0)) ∧ cs.size = 65536 ∧ ∀ i : Nat, i < 65536 → cs[i]? = some (.bool (decide ((i : Int) ∈ seen)))
theorem wpList_alloc35 {ops : Array Oper} {rest : List Oper} {o : Oper} {a : Act} {w : World} {Q : Exit → Act → World → Prop} (hgd : o.guard = none) (ho : o.op = .alloc 35)
    (h : ∀ w1, Bits w1 w.heap.size [] → w1.heap.size = w.heap.size + 1 → Below w.heap.size w w1 → wpList Try.prog ops Q rest (a.put o.dst (.pointer (some ⟨w.heap.size, 0, none⟩))) w1) : wpList Try.prog ops Q (o :: rest) a w := by
  obtain ⟨cs, h1, h2, h3⟩ := alloc35
  refine wpList_plain hgd fun K hK => ?_
  unfold Oper.wp execOp
  simp only [ho, Sem.run_bind, Sem.run_pure, Result.andThen_ok, h3]
  exact hK _ _ (h _ ⟨cs, heap_alloc_new w _, h1, fun i hi => by rw [h2 i hi]; simp⟩ (World.size_alloc _ _) ((Below.refl _ w).alloc (Nat.le_refl _) _))
theorem Bits.cell {W : World} {H : Nat} {seen : List Int} (h : Bits W H seen) (x : Int) (h0 : 0 ≤ x) (h1 : x < 65536) : W.cell? ⟨H, x.toNat, none⟩ = some (.bool (decide (x ∈ seen))) := by
  obtain ⟨cs, h2, h3, h4⟩ := h
  rw [cell_of_row W H _ cs 35 (0, 0) h2, h4 x.toNat (by omega), Int.toNat_of_nonneg h0]
theorem Bits.free {W : World} {H : Nat} {seen : List Int} (h : Bits W H seen) (i : Nat) : W.frozen? ⟨H, i, none⟩ = false := by
  obtain ⟨cs, h2, h3, h4⟩ := h
  simp [World.frozen?, h2]
theorem Bits.lt {W : World} {H : Nat} {seen : List Int} (h : Bits W H seen) : H < W.heap.size := by
  obtain ⟨cs, h2, _⟩ := h
  exact (Array.getElem?_eq_some_iff.1 h2).1
theorem Bits.step {W W' : World} {H : Nat} {seen : List Int} (h : Bits W H seen) (e : W'.heap[H]? = W.heap[H]?) : Bits W' H seen := by
  obtain ⟨cs, h2, h3⟩ := h
  exact ⟨cs, e.trans h2, h3⟩
theorem Bits.below {W W' : World} {H B : Nat} {seen : List Int} (h : Bits W H seen) (hb : Below B W W') (hB : H < B) : Bits W' H seen := h.step (hb.block H hB)
theorem Bits.set {W : World} {H : Nat} {seen : List Int} (h : Bits W H seen) (x : Int) (h0 : 0 ≤ x) (h1 : x < 65536) : Bits (W.setCell ⟨H, x.toNat, none⟩ (.bool true)) H (seen ++ [x]) := by
  obtain ⟨cs, h2, h3, h4⟩ := h
  refine ⟨_, blk_set h2 x.toNat (.bool true), by simpa using h3, fun i hi => ?_⟩
  rw [Array.getElem?_setIfInBounds]
  by_cases e : x.toNat = i
  · rw [if_pos e, if_pos (by omega)]
    have : ((i : Int) ∈ seen ++ [x]) := by simp; right; omega
    simp [this]
  · rw [if_neg e, h4 i hi]
    have : ((i : Int) ∈ seen ++ [x]) ↔ ((i : Int) ∈ seen) := by
      simp; intro h; omega
    simp [this]
/-- The numbers, each once, in order. -/
def setOf (l : List Int) : List Int := l.foldl (fun out n => put1 n out) []
open Pure.NameTells_ in
theorem setOf_ok (l : List Int) : (setOf l).Pairwise (· < ·) ∧ ∀ z, z ∈ setOf l ↔ z ∈ l := by
  have main : ∀ (l out : List Int), out.Pairwise (· < ·) → (l.foldl (fun out n => put1 n out) out).Pairwise (· < ·) ∧ ∀ z, z ∈ (l.foldl (fun out n => put1 n out) out) ↔ z ∈ out ∨ z ∈ l := by
    intro l
    induction l with
    | nil => intro out h; exact ⟨h, by simp⟩
    | cons x l ih =>
      intro out h
      obtain ⟨g1, g2⟩ := ih _ (put1_lt x out h)
      refine ⟨g1, fun z => ?_⟩
      rw [List.foldl_cons, g2, put1_mem, List.mem_cons]
      constructor
      · rintro ((h | h) | h)
        · exact .inr (.inl h)
        · exact .inl h
        · exact .inr (.inr h)
      · rintro (h | h | h)
        · exact .inl (.inr h)
        · exact .inl (.inl h)
        · exact .inr h
  have := main l [] List.Pairwise.nil
  refine ⟨this.1, fun z => (this.2 z).trans (by simp)⟩
open Pure.NameTells_ in
theorem put1_count (n : Int) : ∀ xs : List Int, xs.Pairwise (· < ·) → (put1 n xs).length = if n ∈ xs then xs.length else xs.length + 1
  | [], _ => by simp [put1_nil]
  | x :: xs, h => by
    obtain ⟨h1, h2⟩ := List.pairwise_cons.1 h
    rw [put1_cons]
    by_cases c : x < n
    · rw [if_pos c, List.length_cons, put1_count n xs h2]
      have : (n ∈ x :: xs) ↔ n ∈ xs := by rw [List.mem_cons]; constructor; (rintro (e | e); omega; exact e); exact .inr
      by_cases m : n ∈ xs
      · rw [if_pos m, if_pos (this.2 m), List.length_cons]
      · rw [if_neg m, if_neg (fun h => m (this.1 h)), List.length_cons]
    · rw [if_neg c]
      by_cases d : x = n
      · rw [if_pos d, if_pos (by simp [d])]
      · rw [if_neg d, if_neg (fun h => by rcases List.mem_cons.1 h with e | e; omega; have := h1 n e; omega), List.length_cons]
theorem setOf_snoc (l : List Int) (x : Int) : (setOf (l ++ [x])).length = if x ∈ l then (setOf l).length else (setOf l).length + 1 := by
  have : setOf (l ++ [x]) = put1 x (setOf l) := by simp [setOf, List.foldl_append]
  rw [this, put1_count x _ (setOf_ok l).1]
  by_cases m : x ∈ l
  · rw [if_pos m, if_pos ((setOf_ok l).2 x |>.2 m)]
  · rw [if_neg m, if_neg (fun h => m ((setOf_ok l).2 x |>.1 h))]
theorem setOf_len (l : List Int) : (setOf l).length ≤ l.length := by
  have main : ∀ (l out : List Int), (l.foldl (fun out n => put1 n out) out).length ≤ out.length + l.length := by
    intro l
    induction l with
    | nil => intro out; simp
    | cons x l ih =>
      intro out
      rw [List.foldl_cons]
      refine Nat.le_trans (ih _) ?_
      have := put1_len x out
      simp only [List.length_cons]
      omega
  simpa [setOf] using main l []
/-- The names of numbers. -/
def nm (a x : Int) : ByteArray := strOfNums (ofL a x)
def namesF (l : List Int) : List ByteArray := l.flatMap fun x => [nm 1 x, nm 2 x]
def moreF (l : List ByteArray) : List ByteArray := l.filter fun s => s.size != 9
theorem segOf_1 (x : Int) (h0 : 0 ≤ x) (h1 : x < 65536) : segOf (nm 1 x) = some x := by
  have e : ofL 1 x = numberedL 115 x := by rw [ofL, if_neg (by omega), if_neg (by omega), if_pos rfl]
  rw [segOf, nm, e, parse_numbered 115 1 x (.inl ⟨rfl, rfl⟩) (by omega) (by omega)]; rfl
theorem segOf_2 (x : Int) (h0 : 0 ≤ x) (h1 : x < 65536) : segOf (nm 2 x) = none := by
  have e : ofL 2 x = numberedL 104 x := by rw [ofL, if_neg (by omega), if_neg (by omega), if_neg (by omega), if_pos rfl]
  rw [segOf, nm, e, parse_numbered 104 2 x (.inr ⟨rfl, rfl⟩) (by omega) (by omega)]; rfl
theorem segOf_more (s : ByteArray) (h : s.size ≠ 9) : segOf s = none := by
  unfold segOf
  rcases parse_spec s with e | ⟨_, e⟩ | ⟨_, e⟩ | ⟨c, kind, n, hc, h0, h1, e, hs⟩
  · rw [e]; rfl
  · rw [e]; rfl
  · rw [e]; rfl
  · exact absurd (by rw [hs]; exact PNameTells.numbered_size c n) h
theorem segs_all (l : List Int) (m : List ByteArray) (hl : ∀ x ∈ l, 0 ≤ x ∧ x < 65536) : segsF (namesF l ++ moreF m) = setOf l := by
  have hsort : ∀ l : List Int, (l.mergeSort fun x y => decide (x ≤ y)).Pairwise (· ≤ ·) := fun l => by
    have := List.pairwise_mergeSort (le := fun x y : Int => decide (x ≤ y)) (fun a b c h1 h2 => by simp at *; omega) (fun a b => by simp; omega) l
    exact this.imp (by simp)
  have e : (namesF l ++ moreF m).filterMap segOf = l := by
    rw [List.filterMap_append]
    have e2 : (moreF m).filterMap segOf = [] := by
      rw [List.filterMap_eq_nil_iff]
      intro s hs
      have := (List.mem_filter.1 hs).2
      exact segOf_more s (by simpa using this)
    rw [e2, List.append_nil]
    induction l with
    | nil => rfl
    | cons x l ih =>
      have hx := hl x List.mem_cons_self
      rw [namesF, List.flatMap_cons, List.filterMap_append]
      rw [List.filterMap_cons, segOf_1 x hx.1 hx.2, List.filterMap_cons, segOf_2 x hx.1 hx.2]
      exact congrArg (x :: ·) (ih fun z hz => hl z (List.mem_cons_of_mem _ hz))
  refine lt_unique _ _ (compact_lt (hsort _)) (setOf_ok l).1 fun z => ?_
  rw [segsF, compact_mem, List.mem_mergeSort, e, (setOf_ok l).2]
theorem namesF_snoc (l : List Int) (x : Int) : namesF (l ++ [x]) = namesF l ++ [nm 1 x, nm 2 x] := by simp [namesF]
theorem namesF_len (l : List Int) : (namesF l).length = 2 * l.length := by
  induction l with
  | nil => rfl
  | cons x l ih => simp only [namesF, List.flatMap_cons, List.length_append, List.length_cons, List.length_nil] at ih ⊢; omega
theorem moreF_len (m : List ByteArray) : (moreF m).length ≤ m.length := List.length_filter_le _ _
end Go.Proofs.Ytgolccldopofbaa
