/-
  Layer 13: a directory in memory, and the plain one that it holds; Get.
-/
import Derived.Test.YtomlnflblecpbaaDir
import Derived.Laws.ResultCell
namespace Go.Proofs.Ytomlnflblecpbaa
set_option linter.unusedVariables false
set_option linter.unusedSimpArgs false
open Go.RowKit Go.Proofs.YtomlnflblecpbaaW.PrintWords Go.Proofs.YtomlnflblecpbaaW.PrintMore
attribute [local go_sem] max2_int min2_int
/-- A place in a box, a row's cells. -/
def Pl.cells (p : Pl) : Array Value := #[.int .i64 p.seg, .int .i64 p.kind, .string p.key, .int .i64 p.at_, .int .i64 p.size]
structure PBox (W : World) (q : Nat) (p : Pl) : Prop where
  blk : W.heap[q]? = some (.cells p.cells 32 (0, 0))
section
variable {W W' : World} {q : Nat} {p : Pl}
theorem PBox.grows (h : PBox W q p) (hg : Grows W W') : PBox W' q p := ⟨(hg.block q (lt_heap h.blk)).trans h.blk⟩
theorem PBox.c0 (h : PBox W q p) : W.cell? ⟨q, 0, none⟩ = some (.int .i64 p.seg) := cell_of_row W q 0 _ 32 (0, 0) h.blk
theorem PBox.c1 (h : PBox W q p) : W.cell? ⟨q, 1, none⟩ = some (.int .i64 p.kind) := cell_of_row W q 1 _ 32 (0, 0) h.blk
theorem PBox.c2 (h : PBox W q p) : W.cell? ⟨q, 2, none⟩ = some (.string p.key) := cell_of_row W q 2 _ 32 (0, 0) h.blk
theorem PBox.c3 (h : PBox W q p) : W.cell? ⟨q, 3, none⟩ = some (.int .i64 p.at_) := cell_of_row W q 3 _ 32 (0, 0) h.blk
theorem PBox.c4 (h : PBox W q p) : W.cell? ⟨q, 4, none⟩ = some (.int .i64 p.size) := cell_of_row W q 4 _ 32 (0, 0) h.blk
theorem PBox.fr (h : PBox W q p) (j : Nat) : W.frozen? ⟨q, j, none⟩ = false := frozen_of_row W q j _ 32 h.blk
theorem PBox.set (h : PBox W q p) (p' : Pl) : PBox (W.setCells q 0 p'.vals) q p' := ⟨by rw [heap_spl q p'.vals 0 W p.cells h.blk]; rfl⟩
theorem PBox.new (W : World) (p : Pl) : PBox (W.alloc (.cells p.cells 32)) W.heap.size p := ⟨heap_alloc_new W _⟩
end
def flatP (l : List Pl) : List Value := l.flatMap Pl.vals
theorem flatP_len (l : List Pl) : (flatP l).length = l.length * 5 := by
  unfold flatP
  induction l with
  | nil => rfl
  | cons r rs ih => rw [List.flatMap_cons, List.length_append, ih, List.length_cons, show r.vals.length = 5 from rfl]; omega
theorem flatP_at : ∀ {l : List Pl} {i : Nat} (h : i < l.length) (u : Nat) (hu : u < 5), (flatP l)[i * 5 + u]? = l[i].vals[u]?
  | r :: rs, 0, h, u, hu => by
    show (r.vals ++ flatP rs)[0 * 5 + u]? = _
    rw [Nat.zero_mul, Nat.zero_add, List.getElem?_append_left (show u < r.vals.length from hu)]
    rfl
  | r :: rs, i + 1, h, u, hu => by
    show (r.vals ++ flatP rs)[(i + 1) * 5 + u]? = _
    rw [List.getElem?_append_right (show r.vals.length ≤ (i + 1) * 5 + u by show 5 ≤ _; omega), show (i + 1) * 5 + u - r.vals.length = i * 5 + u by show _ - 5 = _; omega]
    exact flatP_at (by simpa using h) u hu
theorem reads_of_own {W : World} {B : Nat} {v : Value} {l : List Pl} (h : W.ownsRow B 32 5 v l.length (flatP l)) : ∃ A c, v = .slice A l.length c ∧ l.length ≤ c ∧ ReadsP W A l := by
  rcases h.2 with ⟨rfl, h0⟩ | ⟨b, cap, cur, e, hB, hb, hc, hcm, hcs, hcur⟩
  · exact ⟨none, 0, by rw [h0], by omega, fun h => by omega⟩
  · refine ⟨_, cap, e, hc, fun _ => ⟨b, rfl, fun j hj => ?_⟩⟩
    have get : ∀ k u, (flatP l)[k]? = some u → W.cell? ⟨b, k, none⟩ = some u := fun k u hu => by
      rw [cell_of_row W b k cur 32 (0, 0) hb, ← Array.getElem?_toList]
      rw [← hcur, List.getElem?_take] at hu
      split at hu
      · exact hu
      · cases hu
    have g0 : j * 5 = j * 5 + 0 := rfl
    exact ⟨get _ _ (flatP_at hj 0 (by omega)), get _ _ (flatP_at hj 1 (by omega)), get _ _ (flatP_at hj 2 (by omega)), get _ _ (flatP_at hj 3 (by omega)), get _ _ (flatP_at hj 4 (by omega))⟩
/-- A directory's blocks: its own, and its rows'. -/
structure DirB (W : World) (O : Nat → Prop) (d : Nat) (rs : Nat → List Pl) (vs : Nat → Value) (many : Nat) : Prop where
  blk : ∃ cs : Array Value, W.heap[d]? = some (.cells cs 51 (0, 0)) ∧ cs.size = 65 ∧ (∀ i, i < 64 → cs[i]? = some (vs i)) ∧ cs[64]? = some (.int .i64 many)
  row : ∀ i, i < 64 → W.ownsRow 0 32 5 (vs i) (rs i).length (flatP (rs i))
  mine : ∀ i, i < 64 → ∀ k, (vs i).ownBlock = some k → O k ∧ k ≠ d
  apart : ∀ i j, i < 64 → j < 64 → i ≠ j → ∀ k, (vs i).ownBlock = some k → (vs j).ownBlock ≠ some k
  od : O d
/-- A directory that holds a plain one. -/
def DirM (W : World) (O : Nat → Prop) (d : Nat) (m : List Pl) : Prop := ∃ rs vs, DirB W O d rs vs m.length ∧ Rel rowOf rs m
section
variable {W W' : World} {O : Nat → Prop} {d : Nat} {rs : Nat → List Pl} {vs : Nat → Value} {many : Nat}
theorem DirB.lt (h : DirB W O d rs vs many) : d < W.heap.size := by obtain ⟨cs, h1, _⟩ := h.blk; exact lt_heap h1
theorem DirB.cell (h : DirB W O d rs vs many) (i : Nat) (hi : i < 64) : W.cell? ⟨d, i, none⟩ = some (vs i) := by
  obtain ⟨cs, h1, h2, h3, h4⟩ := h.blk
  rw [cell_of_row W d i cs 51 (0, 0) h1]; exact h3 i hi
theorem DirB.c64 (h : DirB W O d rs vs many) : W.cell? ⟨d, 64, none⟩ = some (.int .i64 many) := by
  obtain ⟨cs, h1, h2, h3, h4⟩ := h.blk
  rw [cell_of_row W d 64 cs 51 (0, 0) h1]; exact h4
theorem DirB.fr (h : DirB W O d rs vs many) (i : Nat) : W.frozen? ⟨d, i, none⟩ = false := by
  obtain ⟨cs, h1, _⟩ := h.blk
  exact frozen_of_row W d i _ 51 h1
theorem DirB.keep {O' : Nat → Prop} (h : DirB W O d rs vs many) (hk : ∀ k, O k → k < W.heap.size → W'.heap[k]? = W.heap[k]?) (hO : ∀ k, O k → k < W.heap.size → O' k) : DirB W' O' d rs vs many := by
  obtain ⟨cs, h1, h2⟩ := h.blk
  exact ⟨⟨cs, (hk d h.od h.lt).trans h1, h2⟩, fun i hi => own_move (h.row i hi) fun k e => hk k (h.mine i hi k e).1 (own_lt (h.row i hi) k e), fun i hi k e => ⟨hO k (h.mine i hi k e).1 (own_lt (h.row i hi) k e), (h.mine i hi k e).2⟩, h.apart, hO d h.od h.lt⟩
theorem DirB.grows (h : DirB W O d rs vs many) (hg : Grows W W') : DirB W' O d rs vs many := h.keep (fun k _ hlt => hg.block k hlt) fun k hk _ => hk
theorem DirM.grows {m : List Pl} (h : DirM W O d m) (hg : Grows W W') : DirM W' O d m := by
  obtain ⟨rs, vs, h1, h2⟩ := h; exact ⟨rs, vs, h1.grows hg, h2⟩
theorem allR_sum (rs : Nat → List Pl) : ∀ {n i : Nat}, i < n → (rs i).length ≤ (allR rs n).length
  | n + 1, i, h => by
    rw [allR_succ, List.length_append]
    by_cases e : i = n
    · subst e; omega
    · have := allR_sum rs (show i < n by omega); omega
theorem Rel.row_le {m : List Pl} (h : Rel rowOf rs m) {i : Nat} (hi : i < 64) : (rs i).length ≤ m.length := by
  rw [← h.perm.length_eq]; exact allR_sum rs hi
theorem AtIs.cases {l : List Pl} {k : ByteArray} {j : Int} (hk : (l.map (·.key)).Nodup) (h : AtIs l k j) :
    (∃ i : Nat, ∃ hi : i < l.length, j = i ∧ getM l k = some l[i]) ∨ (j = -1 ∧ getM l k = none) := by
  rcases h with ⟨i, hi, rfl, e⟩ | ⟨rfl, e⟩
  · exact .inl ⟨i, hi, rfl, by rw [← e]; exact getM_of hk (List.getElem_mem hi)⟩
  · exact .inr ⟨rfl, getM_none.2 e⟩
end
theorem results_box_tmp {fn : Func} {p u : Tmp} (h : fn.results = #[.cell p 32, .tmp u]) (tmps : Array Value) (w : World) (g : Nat) (pl : Pl) (hp : tmps.getD p undef = .pointer (some ⟨g, 0, none⟩)) (hg : PBox w g pl) :
    (results fn tmps).run Try.prog w = .ok (.tuple #[.agg pl.cells, tmps.getD u undef]) w := by
  rw [results_cell_tmp h, hp]
  simp only [asAddr, Sem.run_pure, Result.andThen_ok]
  rw [run_loadVar_row w g 32 32 pl.cells (0, 0) _ hg.blk Try.underlying32 rfl (by kernel_rfl)]
  rfl
theorem below_setCells {W W' : World} {q : Nat} {vs : List Value} (h : Grows W W') (hq : W.heap.size ≤ q) : Grows W (W'.setCells q 0 vs) :=
  pw_below_grown h (some q) h.size (grown_spl q vs 0 W') fun k e => by injection e with e; omega
set_option maxRecDepth 100000 in
set_option maxHeartbeats 2000000 in
theorem get_calls {W : World} {O : Nat → Prop} {d : Nat} {m : List Pl} (h : DirM W O d m) (key : ByteArray) (hn : key.size ≤ 1000000) (hm : m.length ≤ 1000000) :
    Calls Try.prog 15 #[.pointer (some ⟨d, 0, none⟩), .string key] W fun e w' => e = .returned (.tuple #[.agg ((getM m key).getD zeroPl).cells, .bool (getM m key).isSome]) ∧ Grows W w' := by
  obtain ⟨rs, vs, hB, hR⟩ := h
  have hrow := (rowOf_eq key).2
  have g0 : Grows W (W.alloc (.cells zeroPl.cells 32)) := (Below.refl W.heap.size W).alloc (Nat.le_refl _) _
  have hB1 := hB.grows g0
  obtain ⟨A, c, ev, hc, hr⟩ := reads_of_own (hB1.row _ hrow)
  have hcell := hB1.cell _ hrow
  rw [ev] at hcell
  have HQ := Aside0.mk (PBox.new W zeroPl)
  have HG := Aside0.mk g0
  have HR := Aside0.mk hR
  have HC := Aside0.mk (of_calls (c := c) hn hcell hr (Nat.le_trans (hR.row_le hrow) hm))
  have HRD := Aside0.mk hr
  have hlen := hc
  have hget := hR.get key hrow
  have hkeys := hR.rows.keys _ hrow
  generalize rs (rowOf key) = l at *
  clear hB hB1 ev hr g0 hR
  go_enter Try.func15, Try.ntmps15
  go_upto_region 1 with fail
  change Code.wp _ _ _ _ (W.alloc (.cells zeroPl.cells 32))
  generalize W.alloc (.cells zeroPl.cells 32) = W1 at *
  have HQS := Aside0.mk (Nat.le_refl W.heap.size)
  generalize hq : W.heap.size = q at HQ ⊢
  have HQE := Aside0.mk hq
  clear hq HQS
  go_upto_region 2 with (go_at_call 27; refine HC.out.mono ?_; clear HC; rintro e w2 ⟨⟨j, rfl, hA⟩, hg⟩; have HA := Aside0.mk hA; have HG2 := Aside0.mk hg; clear hA hg)
  have HQ2 := Aside0.mk (HQ.out.grows HG2.out)
  have HGG := Aside0.mk (show Grows W w2 from HG.out.trans (HG2.out.mono HG.out.size))
  have hcell2 := cell_grows HG2.out hcell
  have f0 := HQ2.out.fr 0; have f1 := HQ2.out.fr 1; have f2 := HQ2.out.fr 2; have f3 := HQ2.out.fr 3; have f4 := HQ2.out.fr 4
  have d0 := HQ2.out.c0; have d1 := HQ2.out.c1; have d2 := HQ2.out.c2; have d3 := HQ2.out.c3; have d4 := HQ2.out.c4
  have hrd2 := HRD.out.grows HG2.out
  clear hcell
  rcases HA.out.cases hkeys with ⟨i, hi, rfl, hg⟩ | ⟨rfl, hg⟩
  · obtain ⟨b, ea, hp⟩ := hrd2 (by omega)
    obtain ⟨k0, k1, k2, k3, k4⟩ := hp i hi
    subst ea
    rw [hget] at hg
    clear hp hget hkeys HA HRD
    generalize l[i] = p at *
    obtain ⟨a1, a2, a3, a4, a5⟩ := p
    have HGM := Aside0.mk hg
    clear hg
    dsimp only at k0 k1 k2 k3 k4
    go_wp2
    exact bodyPost_ret (results_box_tmp rfl _ _ q ⟨a1, a2, a3, a4, a5⟩ rfl (HQ2.out.set ⟨a1, a2, a3, a4, a5⟩)) rfl ⟨by rw [HGM.out]; rfl, below_setCells (vs := Pl.vals ⟨a1, a2, a3, a4, a5⟩) HGG.out (by rw [HQE.out]; exact Nat.le_refl _)⟩
  · rw [hget] at hg
    clear hget hkeys HA HRD hrd2
    have HGM := Aside0.mk hg
    clear hg
    go_wp2
    exact bodyPost_ret (results_box_tmp rfl _ _ q zeroPl rfl (HQ2.out.set zeroPl)) rfl ⟨by rw [HGM.out]; rfl, below_setCells (vs := zeroPl.vals) HGG.out (by rw [HQE.out]; exact Nat.le_refl _)⟩
end Go.Proofs.Ytomlnflblecpbaa
