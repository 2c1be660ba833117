/-
  Layer 13: Put.
-/
import Derived.Test.YtomlnflblecpbaaGet
namespace Go.Proofs.Ytomlnflblecpbaa
set_option linter.unusedVariables false
set_option linter.unusedSimpArgs false
open Go.RowKit Go.Proofs.YtomlnflblecpbaaW.PrintWords Go.Proofs.YtomlnflblecpbaaW.PrintMore
attribute [local go_sem] max2_int min2_int
theorem info32 : (Try.prog.info? 32).map (fun i => (i.zero, i.size, i.bytes)) = some (some (.agg #[.int .i64 0, .int .i64 0, .string ⟨#[]⟩, .int .i64 0, .int .i64 0]), 5, 48) := by kernel_rfl
theorem flatP_app (a b : List Pl) : flatP (a ++ b) = flatP a ++ flatP b := by unfold flatP; rw [List.flatMap_append]
theorem flatP_one (l : List Pl) : ∀ u ∈ flatP l, u.oneCell' = true := fun u hu => by
  unfold flatP at hu
  obtain ⟨r, hr, hu⟩ := List.mem_flatMap.1 hu
  unfold Pl.vals at hu
  simp at hu
  rcases hu with rfl | rfl | rfl | rfl | rfl <;> rfl
/-- append at a row of places. -/
theorem pl_run {W : World} (base : Nat) (v : Value) (l l2 : List Pl) (A : Option Addr) (m c : Nat) (HO : W.ownsRow base 32 5 v l.length (flatP l)) (hm : l2.length = m)
    (hcells : 0 < m → ∃ ad, A = some ad ∧ ∀ j u, (flatP l2)[j]? = some u → W.cell? (ad.add j) = some u) (hbase : base ≤ W.heap.size) (hl : l.length + m ≤ 1000000) :
    ∃ v1 w1, (Builtin.append_ #[48, 48] 48 #[v, .slice A m c]).run Try.prog W = .ok v1 w1 ∧ w1.ownsRow base 32 5 v1 (l ++ l2).length (flatP (l ++ l2)) ∧ W.grownBy w1 v.ownBlock ∧ (v1.ownBlock = v.ownBlock ∨ v1.ownBlock = some W.heap.size) := by
  obtain ⟨i0, hi, hz0, hz1, hz2⟩ := parts3 info32
  have hl2 : (l ++ l2).length = l.length + m := by rw [List.length_append, hm]
  have ht : Try.prog.underlying 48 = some (.slice 32) := Try.underlying48
  rcases Nat.eq_zero_or_pos m with h0 | h0
  · subst h0
    obtain rfl : l2 = [] := List.eq_nil_of_length_eq_zero hm
    refine ⟨v, W, ?_, by simpa using HO, World.grownBy.refl W _, .inl rfl⟩
    rcases HO.2 with ⟨rfl, hn⟩ | ⟨g, cap, cur, rfl, _, _, hnc, _⟩
    · cases A <;> simp [Builtin.append_, run_underlying ht, sizeOf, typeInfo, hi, Builtin.lenOf, Builtin.firstCells, storeCells, loadCells, loadCellsFrom]
    · cases A <;> simp [Builtin.append_, run_underlying ht, sizeOf, typeInfo, hi, Builtin.lenOf, Builtin.firstCells, hnc, storeCells, loadCells, loadCellsFrom]
  · obtain ⟨ad, rfl, hc⟩ := hcells h0
    obtain ⟨v1, w1, hr, h2, h3, _, h5⟩ := run_append_own_at (P := Try.prog) W base 48 48 32 i0 (.agg #[.int .i64 0, .int .i64 0, .string ⟨#[]⟩, .int .i64 0, .int .i64 0]) 5 48 ht hi hz0 hz1 hz2 rfl (by omega) v l.length (flatP l) HO ad m c (flatP l2) (by rw [flatP_len, hm]) hc
      (flatP_one l2) (by simp only [maxLen]; omega) (by omega) hbase
    refine ⟨v1, w1, hr, ?_, h3, h5⟩
    rw [hl2, flatP_app]; exact h2
/-- A row of a directory turns. -/
theorem DirB.turn {W W6 W9 : World} {O O' : Nat → Prop} {d : Nat} {rs : Nat → List Pl} {vs : Nat → Value} {many many' : Nat} (h : DirB W O d rs vs many) {r : Nat} (hr : r < 64) {v : Value} {l : List Pl}
    (hk : ∀ k, k < W.heap.size → (vs r).ownBlock ≠ some k → W6.heap[k]? = W.heap[k]?) (ho : W6.ownsRow 0 32 5 v l.length (flatP l)) (hv : ∀ k, v.ownBlock = some k → (vs r).ownBlock = some k ∨ (W.heap.size ≤ k ∧ O' k)) (hO : ∀ k, O k → O' k)
    (h9 : ∀ k, k ≠ d → W9.heap[k]? = W6.heap[k]?) (hb : ∃ cs : Array Value, W9.heap[d]? = some (.cells cs 51 (0, 0)) ∧ cs.size = 65 ∧ (∀ i, i < 64 → cs[i]? = some (if i = r then v else vs i)) ∧ cs[64]? = some (.int .i64 many')) :
    DirB W9 O' d (setR rs r l) (fun i => if i = r then v else vs i) many' := by
  have hdlt := h.lt
  have hvd : ∀ k, v.ownBlock = some k → k ≠ d := fun k e => (hv k e).elim (fun e2 => (h.mine r hr k e2).2) fun e2 => by omega
  refine ⟨hb, fun i hi => ?_, fun i hi k e => ?_, fun i j hi hj hij k e e2 => ?_, hO d h.od⟩
  · unfold setR
    by_cases e : i = r
    · rw [if_pos e, if_pos e]; exact own_move ho fun k e => h9 k (hvd k e)
    · rw [if_neg e, if_neg e]
      exact own_move (h.row i hi) fun k e3 => (h9 k (h.mine i hi k e3).2).trans (hk k (own_lt (h.row i hi) k e3) fun e4 => h.apart i r hi hr e k e3 e4)
  · by_cases e1 : i = r
    · rw [if_pos e1] at e
      exact ⟨(hv k e).elim (fun e2 => hO k (h.mine r hr k e2).1) fun e2 => e2.2, hvd k e⟩
    · rw [if_neg e1] at e
      exact ⟨hO k (h.mine i hi k e).1, (h.mine i hi k e).2⟩
  · have key : ∀ i, i < 64 → i ≠ r → ∀ k, (vs i).ownBlock = some k → v.ownBlock = some k → False := fun i hi hir k e e2 => by
      rcases hv k e2 with e3 | e3
      · exact h.apart i r hi hr hir k e e3
      · have := own_lt (h.row i hi) k e; omega
    by_cases e1 : i = r
    · rw [if_pos e1] at e
      by_cases e3 : j = r
      · omega
      · rw [if_neg e3] at e2; exact key j hj e3 k e2 e
    · rw [if_neg e1] at e
      by_cases e3 : j = r
      · rw [if_pos e3] at e2; exact key i hi e1 k e e2
      · rw [if_neg e3] at e2; exact h.apart i j hi hj hij k e e2
/-- A struct just made, as a row of one. -/
structure NewPs (B : Nat) (p : Pl) (q : Nat) (W : World) : Prop where
  blk : W.heap[q]? = some (.cells p.cells 32 (0, 0))
  base : B ≤ q
def NewP (B : Nat) (p : Pl) (v : Value) (W : World) : Prop := ∃ q, v = .slice (some ⟨q, 0, none⟩) 1 1 ∧ W.heap[q]? = some (.cells p.cells 32 (0, 0)) ∧ B ≤ q
theorem NewP.keep {B : Nat} {p : Pl} {v : Value} {a b : World} {S : Nat → Prop} (h : NewP B p v a) (hk : KeepS S a b) (hS : ∀ k, S k → k < B) : NewP B p v b := by
  obtain ⟨q, e, h1, h2⟩ := h
  exact ⟨q, e, (hk.block q (lt_heap h1) fun hs => by have := hS q hs; omega).trans h1, h2⟩
structure RowIs (B : Nat) (v0 : Value) (l : List Pl) (v : Value) (W : World) : Prop where
  own : W.ownsRow 0 32 5 v l.length (flatP l)
  loc : v.ownBlock = v0.ownBlock ∨ ∃ k, v.ownBlock = some k ∧ B ≤ k
theorem RowIs.grows {B : Nat} {v0 v : Value} {l : List Pl} {a b : World} (h : RowIs B v0 l v a) (hg : Grows a b) : RowIs B v0 l v b := ⟨own_grows h.own hg, h.loc⟩
theorem cells_of_box {W : World} {q : Nat} {p : Pl} (h : W.heap[q]? = some (.cells p.cells 32 (0, 0))) (j : Nat) (u : Value) (hu : (flatP [p])[j]? = some u) : W.cell? ((⟨q, 0, none⟩ : Addr).add j) = some u := by
  have hadd : (⟨q, 0, none⟩ : Addr).add j = ⟨q, j, none⟩ := by unfold Addr.add; split <;> simp_all
  rw [hadd]
  exact (cell_of_row _ _ j _ 32 (0, 0) h).trans (by rw [← Array.getElem?_toList]; exact hu)
theorem PBox.keep {W W' : World} {q : Nat} {p : Pl} (h : PBox W q p) (hk : W'.heap[q]? = W.heap[q]?) : PBox W' q p := ⟨hk.trans h.blk⟩
def DPost (W : World) (O : Nat → Prop) (d : Nat) (m : List Pl) (r : Value) (e : Ending) (w' : World) : Prop :=
  e = .returned r ∧ ∃ O', DirM w' O' d m ∧ KeepS O W w' ∧ ∀ k, O' k → O k ∨ W.heap.size ≤ k
theorem keep_new {W W' : World} {O : Nat → Prop} (h : KeepS (fun k => O k ∨ W.heap.size ≤ k) W W') : KeepS O W W' := h.mono fun k hk h => h.elim id fun h => by omega
end Go.Proofs.Ytomlnflblecpbaa
