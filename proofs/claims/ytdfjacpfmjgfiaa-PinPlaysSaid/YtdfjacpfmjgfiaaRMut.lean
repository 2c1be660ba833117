/-
  Layer 17: the document's table: what turns it.
-/
import Derived.Test.YtdfjacpfmjgfiaaWith
namespace Go.Proofs.Ytdfjacpfmjgfiaa
set_option linter.unusedVariables false
set_option linter.unusedSimpArgs false
open Go.Shelf Go.RowKit Go.Proofs.YtdfjacpfmjgfiaaW.PrintWords Go.Proofs.YtdfjacpfmjgfiaaW.PrintMore PPinPlays
attribute [local go_sem] max2_int
theorem info62 : (Try.prog.info? 62).map (fun i => (i.zero, i.size, i.bytes)) = some (some (.agg #[.int .i64 0, .slice none 0 0]), 2, 32) := by kernel_rfl
theorem flat_app (a b : List RH) : flat (a ++ b) = flat a ++ flat b := by unfold flat; rw [List.flatMap_append]
/-- append at a row of handles. -/
theorem hands_run {W : World} (base : Nat) (v : Value) (rs rs2 : List RH) (A : Option Addr) (m c : Nat) (HO : W.ownsRow base 62 2 v rs.length (flat rs)) (hm : rs2.length = m)
    (hcells : 0 < m → ∃ ad, A = some ad ∧ ∀ j u, (flat rs2)[j]? = some u → W.cell? (ad.add j) = some u) (h1 : ∀ r ∈ rs2, r.2.2.oneCell' = true) (hbase : base ≤ W.heap.size) (hl : rs.length + m ≤ 1000000) :
    ∃ v1 w1, (Builtin.append_ #[52, 52] 52 #[v, .slice A m c]).run Try.prog W = .ok v1 w1 ∧ w1.ownsRow base 62 2 v1 (rs ++ rs2).length (flat (rs ++ rs2)) ∧ W.grownBy w1 v.ownBlock ∧ (v1.ownBlock = v.ownBlock ∨ v1.ownBlock = some W.heap.size) := by
  obtain ⟨i0, hi, hz0, hz1, hz2⟩ := parts3 info62
  have hl2 : (rs ++ rs2).length = rs.length + m := by rw [List.length_append, hm]
  have ht : Try.prog.underlying 52 = some (.slice 62) := Try.underlying52
  rcases Nat.eq_zero_or_pos m with h0 | h0
  · subst h0
    obtain rfl : rs2 = [] := List.eq_nil_of_length_eq_zero hm
    refine ⟨v, W, ?_, by simpa using HO, World.grownBy.refl W _, .inl rfl⟩
    rcases HO.2 with ⟨rfl, hn⟩ | ⟨g, cap, cur, rfl, _, _, hnc, _⟩
    · cases A <;> simp [Builtin.append_, run_underlying ht, sizeOf, typeInfo, hi, Builtin.lenOf, Builtin.firstCells, storeCells, loadCells, loadCellsFrom]
    · cases A <;> simp [Builtin.append_, run_underlying ht, sizeOf, typeInfo, hi, Builtin.lenOf, Builtin.firstCells, hnc, storeCells, loadCells, loadCellsFrom]
  · obtain ⟨ad, rfl, hc⟩ := hcells h0
    obtain ⟨v1, w1, hr, h2, h3, _, h5⟩ := run_append_own_at (P := Try.prog) W base 52 52 62 i0 (.agg #[.int .i64 0, .slice none 0 0]) 2 32 ht hi hz0 hz1 hz2 rfl (by omega) v rs.length (flat rs) HO ad m c (flat rs2) (by rw [flat_len, hm]) hc
      (by
        intro u hu
        unfold flat at hu
        obtain ⟨r, hr, hu⟩ := List.mem_flatMap.1 hu
        rcases List.mem_cons.1 hu with rfl | hu
        · rfl
        · rw [List.mem_singleton.1 hu]; exact h1 r hr) (by simp only [maxLen]; omega) (by omega) hbase
    refine ⟨v1, w1, hr, ?_, h3, h5⟩
    rw [hl2, flat_app]; exact h2
theorem RTb.one {W : World} {O : Nat → Prop} {g : Nat} {most next : Int} {rs : List RH} {vL : Value} (h : RTb W O g most next rs vL) : ∀ r ∈ rs, r.2.2.oneCell' = true := fun r hr => by
  obtain ⟨A, c, e, _⟩ := h.segs r hr
  rw [e]; rfl
/-- The document's table, whatever it owns. -/
def RTA (W : World) (O : Nat → Prop) (g : Nat) (most next : Int) (hl : HL) : Prop := ∃ rs vL, RTb W O g most next rs vL ∧ absR rs = hl
def RPost (W : World) (O : Nat → Prop) (g : Nat) (most next : Int) (hl : HL) (r : Value) (e : Ending) (w' : World) : Prop :=
  e = .returned r ∧ ∃ O', RTA w' O' g most next hl ∧ KeepS O W w' ∧ ∀ k, O' k → O k ∨ W.heap.size ≤ k
theorem RTb.keep {W W' : World} {O O' : Nat → Prop} {g : Nat} {most next : Int} {rs : List RH} {vL : Value} (h : RTb W O g most next rs vL) (hk : ∀ k, O k → k < W.heap.size → W'.heap[k]? = W.heap[k]?) (hO : ∀ k, O k → k < W.heap.size → O' k) : RTb W' O' g most next rs vL :=
  ⟨(hk g h.og (lt_heap h.blk)).trans h.blk, own_move h.row fun k e => hk k (h.mine k e) (own_lt h.row k e), fun k e => hO k (h.mine k e) (own_lt h.row k e), fun r hr => (h.segs r hr).keep (fun k cs fr ho hc => hk k ho (lt_heap hc)) hO, hO g h.og (lt_heap h.blk)⟩
theorem RTA.keep {W W' : World} {O : Nat → Prop} {g : Nat} {most next : Int} {hl : HL} (h : RTA W O g most next hl) (hk : ∀ k, O k → k < W.heap.size → W'.heap[k]? = W.heap[k]?) : RTA W' O g most next hl := by
  obtain ⟨rs, vL, h1, h2⟩ := h
  exact ⟨rs, vL, h1.keep hk fun k hk _ => hk, h2⟩
theorem RTA.tight {W : World} {O : Nat → Prop} {g : Nat} {most next : Int} {hl : HL} (h : RTA W O g most next hl) : RTA W (fun k => O k ∧ k < W.heap.size) g most next hl := by
  obtain ⟨rs, vL, h1, h2⟩ := h
  exact ⟨rs, vL, h1.keep (fun k _ _ => rfl) fun k hk hlt => ⟨hk, hlt⟩, h2⟩
set_option maxRecDepth 100000 in
set_option maxHeartbeats 1000000 in
theorem rnew_none (w : World) (most : Int) (h : ¬ (1 ≤ most ∧ most ≤ 1024)) : Calls Try.prog 11 #[.int .i64 most] w fun e w' => e = .returned (.pointer none) ∧ w' = w := by
  by_cases h1 : most < 1
  · go_enter Try.func11, Try.ntmps11
    go_wp2
    go_ret
    exact ⟨rfl, rfl⟩
  · have h2 : 1024 < most := by omega
    go_enter Try.func11, Try.ntmps11
    go_wp2
    go_ret
    exact ⟨rfl, rfl⟩
set_option maxRecDepth 100000 in
set_option maxHeartbeats 1000000 in
theorem rnew_some (w : World) (most : Int) (h : 1 ≤ most ∧ most ≤ 1024) : Calls Try.prog 11 #[.int .i64 most] w fun e w' => ∃ g, e = .returned (.pointer (some ⟨g, 0, none⟩)) ∧ RTA w' (fun k => w.heap.size ≤ k) g most 1 [] ∧ Grows w w' := by
  have h1 : ¬ most < 1 := by omega
  have h2 : ¬ 1024 < most := by omega
  go_enter Try.func11, Try.ntmps11
  go_wp2
  go_ret
  exact ⟨_, rfl, ⟨[], .slice none 0 0, ⟨heap_alloc_new w _, World.ownsRow_nil _ _ _ _, fun k h => (by cases h), fun r hr => (by cases hr), Nat.le_refl _⟩, rfl⟩, (Below.refl w.heap.size w).alloc (Nat.le_refl _) _⟩
end Go.Proofs.Ytdfjacpfmjgfiaa
