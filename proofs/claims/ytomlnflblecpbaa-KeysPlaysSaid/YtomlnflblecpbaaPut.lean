/-
  Layer 13: Put.
-/
import Derived.Test.YtomlnflblecpbaaGet
namespace Go.Proofs.Ytomlnflblecpbaa
set_option linter.unusedVariables false
set_option linter.unusedSimpArgs false
open Go.RowKit Go.Proofs.YtomlnflblecpbaaW.PrintWords Go.Proofs.YtomlnflblecpbaaW.PrintMore
attribute [local go_sem] max2_int min2_int
theorem info32 : (Try.prog.info? 32).map (fun i => (i.zero, i.size, i.bytes)) = some (some (.agg #[.int .i64 0, .int .i64 0, .string ⟨#[]⟩, .int .i64 0, .int .i64 0]), 5, 48) := by kernel_rfl
theorem flatP_app (a b : List Pl) : flatP (a ++ b) = flatP a ++ flatP b := by unfold flatP; rw [List.flatMap_append]
theorem flatP_one (l : List Pl) : ∀ u ∈ flatP l, u.oneCell' = true := fun u hu => by
  unfold flatP at hu
  obtain ⟨r, hr, hu⟩ := List.mem_flatMap.1 hu
  unfold Pl.vals at hu
  simp at hu
  rcases hu with rfl | rfl | rfl | rfl | rfl <;> rfl
/-- append at a row of places. -/
theorem pl_run {W : World} (base : Nat) (v : Value) (l l2 : List Pl) (A : Option Addr) (m c : Nat) (HO : W.ownsRow base 32 5 v l.length (flatP l)) (hm : l2.length = m)
    (hcells : 0 < m → ∃ ad, A = some ad ∧ ∀ j u, (flatP l2)[j]? = some u → W.cell? (ad.add j) = some u) (hbase : base ≤ W.heap.size) (hl : l.length + m ≤ 1000000) :
    ∃ v1 w1, (Builtin.append_ #[48, 48] 48 #[v, .slice A m c]).run Try.prog W = .ok v1 w1 ∧ w1.ownsRow base 32 5 v1 (l ++ l2).length (flatP (l ++ l2)) ∧ W.grownBy w1 v.ownBlock ∧ (v1.ownBlock = v.ownBlock ∨ v1.ownBlock = some W.heap.size) := by
  obtain ⟨i0, hi, hz0, hz1, hz2⟩ := parts3 info32
  have hl2 : (l ++ l2).length = l.length + m := by rw [List.length_append, hm]
  have ht : Try.prog.underlying 48 = some (.slice 32) := Try.underlying48
  rcases Nat.eq_zero_or_pos m with h0 | h0
  · subst h0
    obtain rfl : l2 = [] := List.eq_nil_of_length_eq_zero hm
    refine ⟨v, W, ?_, by simpa using HO, World.grownBy.refl W _, .inl rfl⟩
    rcases HO.2 with ⟨rfl, hn⟩ | ⟨g, cap, cur, rfl, _, _, hnc, _⟩
    · cases A <;> simp [Builtin.append_, run_underlying ht, sizeOf, typeInfo, hi, Builtin.lenOf, Builtin.firstCells, storeCells, loadCells, loadCellsFrom]
    · cases A <;> simp [Builtin.append_, run_underlying ht, sizeOf, typeInfo, hi, Builtin.lenOf, Builtin.firstCells, hnc, storeCells, loadCells, loadCellsFrom]
  · obtain ⟨ad, rfl, hc⟩ := hcells h0
    obtain ⟨v1, w1, hr, h2, h3, _, h5⟩ := run_append_own_at (P := Try.prog) W base 48 48 32 i0 (.agg #[.int .i64 0, .int .i64 0, .string ⟨#[]⟩, .int .i64 0, .int .i64 0]) 5 48 ht hi hz0 hz1 hz2 rfl (by omega) v l.length (flatP l) HO ad m c (flatP l2) (by rw [flatP_len, hm]) hc
      (flatP_one l2) (by simp only [maxLen]; omega) (by omega) hbase
    refine ⟨v1, w1, hr, ?_, h3, h5⟩
    rw [hl2, flatP_app]; exact h2
/-- A row of a directory turns. -/
theorem DirB.turn {W W6 W9 : World} {O O' : Nat → Prop} {d : Nat} {rs : Nat → List Pl} {vs : Nat → Value} {many many' : Nat} (h : DirB W O d rs vs many) {r : Nat} (hr : r < 64) {v : Value} {l : List Pl}
    (hk : ∀ k, k < W.heap.size → (vs r).ownBlock ≠ some k → W6.heap[k]? = W.heap[k]?) (ho : W6.ownsRow 0 32 5 v l.length (flatP l)) (hv : ∀ k, v.ownBlock = some k → (vs r).ownBlock = some k ∨ (W.heap.size ≤ k ∧ O' k)) (hO : ∀ k, O k → O' k)
    (h9 : ∀ k, k ≠ d → W9.heap[k]? = W6.heap[k]?) (hb : ∃ cs : Array Value, W9.heap[d]? = some (.cells cs 51 (0, 0)) ∧ cs.size = 65 ∧ (∀ i, i < 64 → cs[i]? = some (if i = r then v else vs i)) ∧ cs[64]? = some (.int .i64 many')) :
    DirB W9 O' d (setR rs r l) (fun i => if i = r then v else vs i) many' := by
  have hdlt := h.lt
  have hvd : ∀ k, v.ownBlock = some k → k ≠ d := fun k e => (hv k e).elim (fun e2 => (h.mine r hr k e2).2) fun e2 => by omega
  refine ⟨hb, fun i hi => ?_, fun i hi k e => ?_, fun i j hi hj hij k e e2 => ?_, hO d h.od⟩
  · unfold setR
    by_cases e : i = r
    · rw [if_pos e, if_pos e]; exact own_move ho fun k e => h9 k (hvd k e)
    · rw [if_neg e, if_neg e]
      exact own_move (h.row i hi) fun k e3 => (h9 k (h.mine i hi k e3).2).trans (hk k (own_lt (h.row i hi) k e3) fun e4 => h.apart i r hi hr e k e3 e4)
  · by_cases e1 : i = r
    · rw [if_pos e1] at e
      exact ⟨(hv k e).elim (fun e2 => hO k (h.mine r hr k e2).1) fun e2 => e2.2, hvd k e⟩
    · rw [if_neg e1] at e
      exact ⟨hO k (h.mine i hi k e).1, (h.mine i hi k e).2⟩
  · have key : ∀ i, i < 64 → i ≠ r → ∀ k, (vs i).ownBlock = some k → v.ownBlock = some k → False := fun i hi hir k e e2 => by
      rcases hv k e2 with e3 | e3
      · exact h.apart i r hi hr hir k e e3
      · have := own_lt (h.row i hi) k e; omega
    by_cases e1 : i = r
    · rw [if_pos e1] at e
      by_cases e3 : j = r
      · omega
      · rw [if_neg e3] at e2; exact key j hj e3 k e2 e
    · rw [if_neg e1] at e
      by_cases e3 : j = r
      · rw [if_pos e3] at e2; exact key i hi e1 k e e2
      · rw [if_neg e3] at e2; exact h.apart i j hi hj hij k e e2
/-- A struct just made, as a row of one. -/
structure NewPs (B : Nat) (p : Pl) (q : Nat) (W : World) : Prop where
  blk : W.heap[q]? = some (.cells p.cells 32 (0, 0))
  base : B ≤ q
def NewP (B : Nat) (p : Pl) (v : Value) (W : World) : Prop := ∃ q, v = .slice (some ⟨q, 0, none⟩) 1 1 ∧ W.heap[q]? = some (.cells p.cells 32 (0, 0)) ∧ B ≤ q
theorem NewP.keep {B : Nat} {p : Pl} {v : Value} {a b : World} {S : Nat → Prop} (h : NewP B p v a) (hk : KeepS S a b) (hS : ∀ k, S k → k < B) : NewP B p v b := by
  obtain ⟨q, e, h1, h2⟩ := h
  exact ⟨q, e, (hk.block q (lt_heap h1) fun hs => by have := hS q hs; omega).trans h1, h2⟩
structure RowIs (B : Nat) (v0 : Value) (l : List Pl) (v : Value) (W : World) : Prop where
  own : W.ownsRow 0 32 5 v l.length (flatP l)
  loc : v.ownBlock = v0.ownBlock ∨ ∃ k, v.ownBlock = some k ∧ B ≤ k
theorem RowIs.grows {B : Nat} {v0 v : Value} {l : List Pl} {a b : World} (h : RowIs B v0 l v a) (hg : Grows a b) : RowIs B v0 l v b := ⟨own_grows h.own hg, h.loc⟩
theorem cells_of_box {W : World} {q : Nat} {p : Pl} (h : W.heap[q]? = some (.cells p.cells 32 (0, 0))) (j : Nat) (u : Value) (hu : (flatP [p])[j]? = some u) : W.cell? ((⟨q, 0, none⟩ : Addr).add j) = some u := by
  have hadd : (⟨q, 0, none⟩ : Addr).add j = ⟨q, j, none⟩ := by unfold Addr.add; split <;> simp_all
  rw [hadd]
  exact (cell_of_row _ _ j _ 32 (0, 0) h).trans (by rw [← Array.getElem?_toList]; exact hu)
theorem PBox.keep {W W' : World} {q : Nat} {p : Pl} (h : PBox W q p) (hk : W'.heap[q]? = W.heap[q]?) : PBox W' q p := ⟨hk.trans h.blk⟩
def DPost (W : World) (O : Nat → Prop) (d : Nat) (m : List Pl) (r : Value) (e : Ending) (w' : World) : Prop :=
  e = .returned r ∧ ∃ O', DirM w' O' d m ∧ KeepS O W w' ∧ ∀ k, O' k → O k ∨ W.heap.size ≤ k
theorem keep_new {W W' : World} {O : Nat → Prop} (h : KeepS (fun k => O k ∨ W.heap.size ≤ k) W W') : KeepS O W W' := h.mono fun k hk h => h.elim id fun h => by omega
end Go.Proofs.Ytomlnflblecpbaa

/-
  Layer 13: a place of a row is written anew.
-/
namespace Go.Proofs.Ytomlnflblecpbaa
set_option linter.unusedVariables false
set_option linter.unusedSimpArgs false
open Go.RowKit Go.Proofs.YtomlnflblecpbaaW.PrintWords Go.Proofs.YtomlnflblecpbaaW.PrintMore
theorem flatP_take : ∀ (l : List Pl) (i : Nat), flatP (l.take i) = (flatP l).take (i * 5)
  | [], i => by simp [flatP]
  | r :: l, 0 => by simp [flatP]
  | r :: l, i + 1 => by
    show flatP (r :: l.take i) = (r.vals ++ flatP l).take _
    rw [List.take_append, show r.vals.length = 5 from rfl, List.take_of_length_le (show r.vals.length ≤ (i + 1) * 5 by show 5 ≤ _; omega), show (i + 1) * 5 - 5 = i * 5 by omega, ← flatP_take l i]
    rfl
theorem flatP_drop : ∀ (l : List Pl) (i : Nat), flatP (l.drop i) = (flatP l).drop (i * 5)
  | [], i => by simp [flatP]
  | r :: l, 0 => by simp [flatP]
  | r :: l, i + 1 => by
    show flatP (l.drop i) = (r.vals ++ flatP l).drop _
    rw [List.drop_append, show r.vals.length = 5 from rfl, List.drop_eq_nil_of_le (show r.vals.length ≤ (i + 1) * 5 by show 5 ≤ _; omega), show (i + 1) * 5 - 5 = i * 5 by omega, ← flatP_drop l i]
    rfl
theorem flatP_set {l : List Pl} {i : Nat} (hi : i < l.length) (r : Pl) : flatP (l.set i r) = (flatP l).take (i * 5) ++ r.vals ++ (flatP l).drop (i * 5 + 5) := by
  rw [List.set_eq_take_append_cons_drop, if_pos hi, flatP_app, flatP_take, show flatP (r :: l.drop (i + 1)) = r.vals ++ flatP (l.drop (i + 1)) from rfl, flatP_drop, show (i + 1) * 5 = i * 5 + 5 by omega, List.append_assoc]
theorem slice_inj {b b' n c c' : Nat} (h : Value.slice (some ⟨b, 0, none⟩) n c = .slice (some ⟨b', 0, none⟩) n c') : b = b' ∧ c = c' := by
  injection h with h1 h2 h3
  injection h1 with h1
  injection h1 with h1
  exact ⟨h1, h3⟩
theorem pl_set {W : World} {B b c : Nat} {l : List Pl} (h : W.ownsRow B 32 5 (.slice (some ⟨b, 0, none⟩) l.length c) l.length (flatP l)) {i : Nat} (hi : i < l.length) (r : Pl) :
    (W.setCells b (i * 5) r.vals).ownsRow B 32 5 (.slice (some ⟨b, 0, none⟩) l.length c) (l.set i r).length (flatP (l.set i r)) := by
  rcases h.2 with ⟨h, _⟩ | ⟨b', cap, cur, hv, hBb, hb, hc, hcm, hcs, hcur⟩
  · cases h
  · obtain ⟨e1, e2⟩ := slice_inj hv
    subst e1 e2
    have hls : (l.set i r).length = l.length := List.length_set
    have hv5 : r.vals.length = 5 := rfl
    have hsz : cur.toList.length = c * 5 := by rw [Array.length_toList]; exact hcs
    have hfl := flatP_len l
    generalize hvs : r.vals = vs at *
    have hfs : flatP (l.set i r) = (flatP l).take (i * 5) ++ vs ++ (flatP l).drop (i * 5 + 5) := by rw [← hvs]; exact flatP_set hi r
    have hln : (flatP (l.set i r)).length = (l.set i r).length * 5 := flatP_len _
    rw [hls] at hln ⊢
    generalize flatP (l.set i r) = F at *
    refine ⟨hln, .inr ⟨b, c, spl cur (i * 5) vs, rfl, hBb, heap_spl b vs (i * 5) W cur hb, hc, hcm, ?_, ?_⟩⟩
    · rw [spl_size]; exact hcs
    rw [spl_list _ _ _ (by rw [hv5, ← Array.length_toList, hsz]; omega), hfs, ← hcur]
    have h1 : i * 5 ≤ l.length * 5 := by omega
    have hlen : (List.take (i * 5) cur.toList ++ vs).length = i * 5 + 5 := by rw [List.length_append, List.length_take, hv5, hsz, Nat.min_eq_left (by omega)]
    rw [hv5, List.take_take, Nat.min_eq_left h1, List.take_append, List.take_of_length_le (by rw [hlen]; omega), hlen, List.drop_take]
end Go.Proofs.Ytomlnflblecpbaa

/-
  Layer 13: Put, whole.
-/
namespace Go.Proofs.Ytomlnflblecpbaa
set_option linter.unusedVariables false
set_option linter.unusedSimpArgs false
open Go.RowKit Go.Proofs.YtomlnflblecpbaaW.PrintWords Go.Proofs.YtomlnflblecpbaaW.PrintMore
attribute [local go_sem] max2_int min2_int
set_option maxRecDepth 100000 in
set_option maxHeartbeats 4000000 in
theorem put_calls {W : World} {O : Nat → Prop} {d : Nat} {m : List Pl} (h : DirM W O d m) (hOW : ∀ k, O k → k < W.heap.size) (p : Pl) (hn : p.key.size ≤ 1000000) (hm : m.length ≤ 100000) :
    Calls Try.prog 20 #[.pointer (some ⟨d, 0, none⟩), .agg p.cells] W (DPost W O d (putM m p) (.tuple #[.agg ((getM m p.key).getD zeroPl).cells, .bool (getM m p.key).isSome])) := by
  obtain ⟨rs, vs, hB, hR⟩ := h
  have hrow := (rowOf_eq p.key).2
  have g0 : Grows W (W.alloc (.cells p.cells 32)) := (Below.refl W.heap.size W).alloc (Nat.le_refl _) _
  have g1 : Grows (W.alloc (.cells p.cells 32)) ((W.alloc (.cells p.cells 32)).alloc (.cells zeroPl.cells 32)) := (Below.refl _ _).alloc (Nat.le_refl _) _
  have gg := g0.trans (g1.mono g0.size)
  have hB1 := hB.grows gg
  obtain ⟨A, c, ev, hc, hr⟩ := reads_of_own (hB1.row _ hrow)
  have hcell := hB1.cell _ hrow
  rw [ev] at hcell
  have HQ1 := Aside0.mk ((PBox.new W p).grows g1)
  have HQ2 := Aside0.mk (PBox.new (W.alloc (.cells p.cells 32)) zeroPl)
  have HL1 := Aside0.mk (Nat.le_refl W.heap.size)
  have HL2 := Aside0.mk g0.size
  have HLN := Aside0.mk (show W.heap.size < (W.alloc (.cells p.cells 32)).heap.size from lt_heap (PBox.new W p).blk)
  have HG := Aside0.mk gg
  have HR := Aside0.mk hR
  have HB1 := Aside0.mk hB1
  have HO := Aside0.mk hOW
  have hll : (rs (rowOf p.key)).length ≤ m.length := hR.row_le hrow
  have HC := Aside0.mk (of_calls (c := c) hn hcell hr (by omega))
  have HRD := Aside0.mk hr
  have HEV := Aside0.mk ev
  have hget := hR.get p.key hrow
  have hkeys := hR.rows.keys _ hrow
  obtain ⟨l, hl⟩ : ∃ l, rs (rowOf p.key) = l := ⟨_, rfl⟩
  rw [hl] at hcell HC HRD HEV hc hget hkeys hll
  have HLE := Aside0.mk hl
  clear hB hB1 ev hr g0 g1 gg hR hl hOW
  obtain ⟨sg, kd, ky, at_, sz⟩ := p
  dsimp only at *
  go_enter Try.func20, Try.ntmps20
  go_upto_region 1 with fail
  change Code.wp _ _ _ _ ((W.alloc (.cells (Pl.cells ⟨sg, kd, ky, at_, sz⟩) 32)).alloc (.cells zeroPl.cells 32))
  generalize (W.alloc (.cells (Pl.cells ⟨sg, kd, ky, at_, sz⟩) 32)).alloc (.cells zeroPl.cells 32) = W1 at *
  have HLN2 := Aside0.mk (show (W.alloc (.cells (Pl.cells ⟨sg, kd, ky, at_, sz⟩) 32)).heap.size = W.heap.size + 1 from Array.size_push _)
  clear HL2 HLN
  generalize (W.alloc (.cells (Pl.cells ⟨sg, kd, ky, at_, sz⟩) 32)).heap.size = q2 at HQ2 HLN2 ⊢
  clear HL1
  generalize hq1 : W.heap.size = q1 at HQ1 HLN2 ⊢
  have HE1 := Aside0.mk hq1
  clear hq1
  have e2 := HLN2.out
  subst e2
  have k2 := HQ1.out.c2
  dsimp only at k2
  go_upto_region 2 with (go_at_call 27; refine HC.out.mono ?_; clear HC; rintro e w2 ⟨⟨j, rfl, hA⟩, hg⟩; have HA := Aside0.mk hA; have HG2 := Aside0.mk hg; clear hA hg)
  have HB2 := Aside0.mk (HB1.out.grows HG2.out)
  have HGG := Aside0.mk (HG.out.trans (HG2.out.mono HG.out.size))
  have HP1 := Aside0.mk (HQ1.out.grows HG2.out)
  have HP2 := Aside0.mk (HQ2.out.grows HG2.out)
  have hcell2 := cell_grows HG2.out hcell
  have hrd2 := HRD.out.grows HG2.out
  clear hcell HRD HB1 HG HG2 HQ1 HQ2 k2
  rcases HA.out.cases hkeys with ⟨i, hi, rfl, hg⟩ | ⟨rfl, hg⟩
  · rw [hget] at hg
    obtain ⟨b, ea, hp⟩ := hrd2 (by omega)
    obtain ⟨k0, k1, k2, k3, k4⟩ := hp i hi
    subst ea
    have HGM := Aside0.mk hg
    have HPA := Aside0.mk hp
    have HHI := Aside0.mk hi
    obtain ⟨old, hold⟩ : ∃ x, l[i] = x := ⟨_, rfl⟩
    rw [hold] at k0 k1 k2 k3 k4 HGM
    have HOLD := Aside0.mk hold
    clear hg hget hkeys HA hrd2 hp hold
    obtain ⟨a1, a2, a3, a4, a5⟩ := old
    dsimp only at k0 k1 k2 k3 k4
    go_upto_region 7 with fail
    change Code.wp _ _ _ _ (w2.alloc (.cells (Pl.cells ⟨a1, a2, a3, a4, a5⟩) 32))
    have g3 : Grows w2 (w2.alloc (.cells (Pl.cells ⟨a1, a2, a3, a4, a5⟩) 32)) := (Below.refl w2.heap.size w2).alloc (Nat.le_refl _) _
    have HB3 := Aside0.mk (HB2.out.grows g3)
    have HG3 := Aside0.mk (HGG.out.trans (g3.mono HGG.out.size))
    have HP13 := Aside0.mk (HP1.out.grows g3)
    have HP23 := Aside0.mk (HP2.out.grows g3)
    have HP8 := Aside0.mk (PBox.new w2 ⟨a1, a2, a3, a4, a5⟩)
    have HQ8 := Aside0.mk (lt_heap HP2.out.blk)
    have hcell3 := cell_grows g3 hcell2
    have HK3 := Aside0.mk (⟨cell_grows g3 k0, cell_grows g3 k1, cell_grows g3 k2, cell_grows g3 k3, cell_grows g3 k4⟩ : PlAt _ b i ⟨a1, a2, a3, a4, a5⟩)
    clear HB2 HGG HP1 HP2 hcell2 g3 k0 k1 k2 k3 k4 HPA
    generalize w2.alloc (.cells (Pl.cells ⟨a1, a2, a3, a4, a5⟩) 32) = w3 at *
    generalize w2.heap.size = q8 at HP8 HQ8 ⊢
    have hrowown := HB3.out.row _ hrow
    rw [HLE.out, HEV.out] at hrowown
    have HOWN := Aside0.mk hrowown
    clear hrowown
    have HBB := Aside0.mk (show O b ∧ b ≠ d from HB3.out.mine _ hrow b (by rw [HEV.out]; rfl))
    have HFB := Aside0.mk (show ∀ w4, KeepS (fun _ => False) w3 w4 → ∀ k, k < w3.heap.size → w4.heap[k]? = w3.heap[k]? from fun w4 hk k hlt => hk.block k hlt fun h => h)
    have HCK := Aside0.mk (show ∀ w4, KeepS (fun _ => False) w3 w4 → w4.cell? ⟨d, rowOf ky, none⟩ = some (.slice (some ⟨b, 0, none⟩) l.length c) from fun w4 hk => (hk.cell HB3.out.lt fun h => h).trans hcell3)
    have HBK := Aside0.mk (show ∀ w4, KeepS (fun _ => False) w3 w4 → PBox w4 q1 ⟨sg, kd, ky, at_, sz⟩ from fun w4 hk => HP13.out.keep (HFB.out w4 hk q1 (lt_heap HP13.out.blk)))
    clear hcell3
    apply wp_region_phase_last (K0 := Grows) (K := KeepS (fun _ => False)) (hK := phaseK _) (I0 := fun _ => True) (h0 := trivial) (hI := fun _ _ _ _ => trivial) (hL := by rfl) (hm := by kernel_rfl) (hB := by kernel_rfl) (hB2 := by kernel_rfl)
    case h =>
      simp only [List.dropLast_cons_cons, List.dropLast_singleton]
      apply phase_fixed
      case hw => simp [Region.wanted, yielded]
      case ho =>
        intro w4 hk hf
        clear hf
        refine ⟨?_⟩
        go_simp
        exact ⟨Grows.refl _, rfl⟩
      simp only [Act.put, List.setIfInBounds_toArray, List.set_cons_zero, List.set_cons_succ]
      apply phase_fixed
      case hw => simp [Region.wanted, yielded]
      case ho =>
        intro w4 hk hf
        clear hf
        refine ⟨?_⟩
        go_simp
        exact ⟨Grows.refl _, rfl⟩
      simp only [Act.put, List.setIfInBounds_toArray, List.set_cons_zero, List.set_cons_succ]
      apply phase_fixed
      case hw => simp [Region.wanted, yielded]
      case ho =>
        intro w4 hk hf
        clear hf
        have q1' := HCK.out w4 hk
        refine ⟨?_⟩
        go_simp
        exact ⟨Grows.refl _, rfl⟩
      simp only [Act.put, List.setIfInBounds_toArray, List.set_cons_zero, List.set_cons_succ]
      apply phase_fixed
      case hw => simp [Region.wanted, yielded]
      case ho =>
        intro w4 hk hf
        clear hf
        refine ⟨?_⟩
        go_simp
        exact ⟨Grows.refl _, rfl⟩
      simp only [Act.put, List.setIfInBounds_toArray, List.set_cons_zero, List.set_cons_succ]
      apply phase_fixed
      case hw => simp [Region.wanted, yielded]
      case ho =>
        intro w4 hk hf
        clear hf
        have e0 := (HBK.out w4 hk).c0; have e1 := (HBK.out w4 hk).c1; have e2 := (HBK.out w4 hk).c2; have e3 := (HBK.out w4 hk).c3; have e4 := (HBK.out w4 hk).c4
        dsimp only at e0 e1 e2 e3 e4
        refine ⟨?_⟩
        go_simp
        exact ⟨Grows.refl _, rfl⟩
      simp only [Act.put, List.setIfInBounds_toArray, List.set_cons_zero, List.set_cons_succ]
      apply phase_fixed
      case hw => simp [Region.wanted, yielded]
      case ho =>
        intro w4 hk hf
        clear hf
        refine ⟨?_⟩
        go_simp
        exact ⟨Grows.refl _, rfl⟩
      simp only [Act.put, List.setIfInBounds_toArray, List.set_cons_zero, List.set_cons_succ]
      refine phase_nil fun w9 hk hI hf => ?_
      clear hf hI
      have hB9 := HB3.out.keep (W' := w9) (fun k _ hlt => HFB.out w9 hk k hlt) fun k hk _ => hk
      have hG9 : Grows W w9 := ⟨hk.os.trans HG3.out.os, hk.tape.trans HG3.out.tape, hk.output.trans HG3.out.output, Nat.le_trans HG3.out.size hk.size, fun k hlt => (hk.block k (Nat.lt_of_lt_of_le hlt HG3.out.size) fun h => h).trans (HG3.out.block k hlt)⟩
      have hown9 := hB9.row _ hrow
      rw [HLE.out, HEV.out] at hown9
      obtain ⟨cur, hbb⟩ := own_typed hown9 b rfl
      have fb : ∀ j, w9.frozen? ⟨b, j, none⟩ = false := fun j => frozen_of_row _ b j _ 32 hbb
      have hk9 : ∀ p v, w3.cell? p = some v → w9.cell? p = some v := fun p v hc => (hk.cell (World.block_lt_of_cell? w3 p hc) fun h => h).trans hc
      have k0 := hk9 _ _ HK3.out.c0; have k1 := hk9 _ _ HK3.out.c1; have k2 := hk9 _ _ HK3.out.c2; have k3 := hk9 _ _ HK3.out.c3; have k4 := hk9 _ _ HK3.out.c4
      dsimp only at k0 k1 k2 k3 k4
      have b0 := fb (i * 5); have b1 := fb (i * 5 + 1); have b2 := fb (i * 5 + 2); have b3 := fb (i * 5 + 3); have b4 := fb (i * 5 + 4)
      have hset := pl_set hown9 HHI.out (⟨sg, kd, ky, at_, sz⟩ : Pl)
      have hb8 : q8 ≠ b := fun e => by have := HO.out b HBB.out.1; have := HE1.out; have := HQ8.out; omega
      have hb1 : q1 + 1 ≠ b := fun e => by have := HO.out b HBB.out.1; have := HE1.out; omega
      have HP8' := Aside0.mk ((HP8.out.keep (HFB.out w9 hk q8 (lt_heap HP8.out.blk))).keep (heap_spl_ne b (Pl.vals (⟨sg, kd, ky, at_, sz⟩ : Pl)) (i * 5) w9 q8 hb8))
      have HP2' := Aside0.mk ((HP23.out.keep (HFB.out w9 hk (q1 + 1) (lt_heap HP23.out.blk))).keep (heap_spl_ne b (Pl.vals (⟨sg, kd, ky, at_, sz⟩ : Pl)) (i * 5) w9 (q1 + 1) hb1))
      have hset' : DirB (World.setCells w9 b (i * 5) (Pl.vals (⟨sg, kd, ky, at_, sz⟩ : Pl))) O d (setR rs (rowOf ky) (l.set i (⟨sg, kd, ky, at_, sz⟩ : Pl))) (fun i => if i = rowOf ky then (.slice (some ⟨b, 0, none⟩) l.length c) else vs i) m.length := by
        refine hB9.turn (W6 := (World.setCells w9 b (i * 5) (Pl.vals (⟨sg, kd, ky, at_, sz⟩ : Pl)))) (W9 := (World.setCells w9 b (i * 5) (Pl.vals (⟨sg, kd, ky, at_, sz⟩ : Pl)))) hrow (fun k _ hne => heap_spl_ne b _ _ w9 k fun e => hne (by rw [HEV.out, e]; rfl)) hset (fun k e => .inl (by rw [HEV.out]; exact e)) (fun k hk => hk) (fun k _ => rfl) ?_
        obtain ⟨cs, h1, h2, h3, h4⟩ := hB9.blk
        refine ⟨cs, (heap_spl_ne b _ _ w9 d fun e => HBB.out.2 e.symm).trans h1, h2, fun i2 hi2 => ?_, h4⟩
        by_cases e : i2 = rowOf ky
        · rw [if_pos e, e, h3 _ hrow, HEV.out]
        · rw [if_neg e]; exact h3 i2 hi2
      have HFIN := Aside0.mk (show DPost W O d (putM m (⟨sg, kd, ky, at_, sz⟩ : Pl)) (.tuple #[.agg ((getM m ky).getD zeroPl).cells, .bool (getM m ky).isSome]) (.returned (.tuple #[.agg (Pl.cells (⟨a1, a2, a3, a4, a5⟩ : Pl)), .bool true])) (World.setCells (World.setCells w9 b (i * 5) (Pl.vals (⟨sg, kd, ky, at_, sz⟩ : Pl))) (q1 + 1) 0 (Pl.vals (⟨a1, a2, a3, a4, a5⟩ : Pl))) from by
        refine ⟨by rw [HGM.out]; rfl, O, ?_, ?_, fun k hk => .inl hk⟩
        · have hrel := HR.out.put_old (i := rowOf ky) hrow (u := l.take i) (v := l.drop (i + 1)) (q := (⟨a1, a2, a3, a4, a5⟩ : Pl)) (by rw [HLE.out]; conv => lhs; rw [← List.take_append_drop i l, List.drop_eq_getElem_cons HHI.out, HOLD.out]) (⟨sg, kd, ky, at_, sz⟩ : Pl) (getM_mem HGM.out).2
          rw [show l.take i ++ (⟨sg, kd, ky, at_, sz⟩ : Pl) :: l.drop (i + 1) = l.set i (⟨sg, kd, ky, at_, sz⟩ : Pl) by rw [List.set_eq_take_append_cons_drop, if_pos HHI.out]] at hrel
          refine ⟨_, (fun i => if i = rowOf ky then (.slice (some ⟨b, 0, none⟩) l.length c) else vs i), ?_, hrel⟩
          rw [put_len_some HR.out.sorted (p := (⟨sg, kd, ky, at_, sz⟩ : Pl)) (q := (⟨a1, a2, a3, a4, a5⟩ : Pl)) HGM.out]
          refine hset'.keep (fun k hk _ => heap_spl_ne (q1 + 1) _ 0 _ k fun e => ?_) fun k hk _ => hk
          have := HO.out k hk; have := HE1.out; omega
        · exact keep_new (by rw [HE1.out]; exact ((KeepS.of_grows hG9).trans (KeepS.of_grown (grown_spl b _ (i * 5) _) fun k e => by injection e with e; subst e; exact .inl HBB.out.1)).trans (KeepS.of_grown (grown_spl (q1 + 1) _ 0 _) fun k e => by injection e with e; subst e; exact .inr (by omega))))
      have e0 := HP8'.out.c0; have e1 := HP8'.out.c1; have e2 := HP8'.out.c2; have e3 := HP8'.out.c3; have e4 := HP8'.out.c4
      dsimp only at e0 e1 e2 e3 e4
      have d0 := HP2'.out.c0; have d1 := HP2'.out.c1; have d2 := HP2'.out.c2; have d3 := HP2'.out.c3; have d4 := HP2'.out.c4
      have f0 := HP2'.out.fr 0; have f1' := HP2'.out.fr 1; have f2 := HP2'.out.fr 2; have f3 := HP2'.out.fr 3; have f4 := HP2'.out.fr 4
      clear hB9 hG9 hown9 hbb fb hk9 hset hset' hb8 hb1 hk HCK HBK HFB
      refine ⟨by simp [Region.wanted, yielded], ⟨?_⟩⟩
      go_simp
      simp only [growUpon]
      change (_ : Act → World → Prop) _ (World.setCells w9 b (i * 5) (Pl.vals (⟨sg, kd, ky, at_, sz⟩ : Pl)))
      generalize hwa : (World.setCells w9 b (i * 5) (Pl.vals (⟨sg, kd, ky, at_, sz⟩ : Pl))) = wa at *
      go_wp2
      exact bodyPost_ret (results_box_tmp (fn := Try.f20) (p := 4) (u := 5) rfl _ _ (q1 + 1) (⟨a1, a2, a3, a4, a5⟩ : Pl) rfl (HP2'.out.set (⟨a1, a2, a3, a4, a5⟩ : Pl))) rfl HFIN.out
    case ht => kernel_rfl
  · rw [hget] at hg
    have HGM := Aside0.mk hg
    clear hg hget hkeys HA hrd2
    have HCK := Aside0.mk (show ∀ w3, KeepS (fun k => (vs (rowOf ky)).ownBlock = some k) w2 w3 → w3.cell? ⟨d, rowOf ky, none⟩ = some (.slice A l.length c) from fun w3 hk => (hk.cell HB2.out.lt fun e => (HB2.out.mine _ hrow d e).2 rfl).trans hcell2)
    have HDS := Aside0.mk (show ∀ k, (vs (rowOf ky)).ownBlock = some k → k < q1 from fun k e => by rw [← HE1.out]; exact HO.out k (HB2.out.mine _ hrow k e).1)
    have HBK := Aside0.mk (show ∀ w3, KeepS (fun k => (vs (rowOf ky)).ownBlock = some k) w2 w3 → PBox w3 q1 ⟨sg, kd, ky, at_, sz⟩ from fun w3 hk => HP1.out.keep (hk.block q1 (lt_heap HP1.out.blk) fun e => by have := HDS.out _ e; omega))
    have HBK2 := Aside0.mk (show ∀ w3, KeepS (fun k => (vs (rowOf ky)).ownBlock = some k) w2 w3 → PBox w3 (q1 + 1) zeroPl from fun w3 hk => HP2.out.keep (hk.block (q1 + 1) (lt_heap HP2.out.blk) fun e => by have := HDS.out _ e; have := HLN2.out; omega))
    have HSL := Aside0.mk (show ∀ k, (vs (rowOf ky)).ownBlock = some k → k < w2.heap.size from fun k e => own_lt (HB2.out.row _ hrow) k e)
    have hown := HB2.out.row _ hrow
    rw [HLE.out] at hown
    have HOWN := Aside0.mk hown
    clear hown hcell2
    go_upto_region 3 with fail
    apply wp_region_phase_last (K0 := Grows) (K := KeepS (fun k => (vs (rowOf ky)).ownBlock = some k)) (hK := phaseK _) (I0 := fun W' => W'.ownsRow 0 32 5 (vs (rowOf ky)) l.length (flatP l)) (h0 := HOWN.out) (hI := fun _ _ h hg => own_grows hg h) (hL := by rfl) (hm := by kernel_rfl) (hB := by kernel_rfl) (hB2 := by kernel_rfl)
    case h =>
      simp only [List.dropLast_cons_cons, List.dropLast_singleton]
      apply phase_fixed
      case hw => simp [Region.wanted, yielded]
      case ho =>
        intro w3 hk hf
        clear hf
        refine ⟨?_⟩
        go_simp
        exact ⟨Grows.refl _, rfl⟩
      simp only [Act.put, List.setIfInBounds_toArray, List.set_cons_zero, List.set_cons_succ]
      apply phase_fixed
      case hw => simp [Region.wanted, yielded]
      case ho =>
        intro w3 hk hf
        clear hf
        refine ⟨?_⟩
        go_simp
        exact ⟨Grows.refl _, rfl⟩
      simp only [Act.put, List.setIfInBounds_toArray, List.set_cons_zero, List.set_cons_succ]
      apply phase_fixed
      case hw => simp [Region.wanted, yielded]
      case ho =>
        intro w3 hk hf
        clear hf
        refine ⟨?_⟩
        go_simp
        exact ⟨Grows.refl _, rfl⟩
      simp only [Act.put, List.setIfInBounds_toArray, List.set_cons_zero, List.set_cons_succ]
      apply phase_fixed
      case hw => simp [Region.wanted, yielded]
      case ho =>
        intro w3 hk hf
        clear hf
        have q1' := HCK.out w3 hk
        refine ⟨?_⟩
        go_simp
        exact ⟨Grows.refl _, rfl⟩
      simp only [Act.put, List.setIfInBounds_toArray, List.set_cons_zero, List.set_cons_succ]
      apply phase_fixed
      case hw => simp [Region.wanted, yielded]
      case ho =>
        intro w3 hk hf
        clear hf
        have e0 := (HBK.out w3 hk).c0; have e1 := (HBK.out w3 hk).c1; have e2 := (HBK.out w3 hk).c2; have e3 := (HBK.out w3 hk).c3; have e4 := (HBK.out w3 hk).c4
        dsimp only at e0 e1 e2 e3 e4
        refine ⟨?_⟩
        go_simp
        exact ⟨Grows.refl _, rfl⟩
      simp only [Act.put, List.setIfInBounds_toArray, List.set_cons_zero, List.set_cons_succ]
      apply phase_free (G := fun v W => NewP w2.heap.size (⟨sg, kd, ky, at_, sz⟩ : Pl) v W)
      case hw => simp [Region.wanted, yielded]
      case ho =>
        intro w3 hk hf
        clear hf
        refine ⟨?_⟩
        have hsz := hk.size
        go_simp
        exact ⟨(Below.refl _ _).alloc (Nat.le_refl _) _, _, rfl, heap_alloc_new w3 _, hsz⟩
      case hm => exact fun v a b h hk => h.keep hk HSL.out
      intro v24
      simp only [Act.put, List.setIfInBounds_toArray, List.set_cons_zero, List.set_cons_succ]
      apply phase_turn_free (G := fun _ _ => True) (J := (fun v W => RowIs w2.heap.size (vs (rowOf ky)) (l ++ [(⟨sg, kd, ky, at_, sz⟩ : Pl)]) v W))
      case hw => simp [Region.wanted, yielded]
      case ho =>
        intro w3 hk hf hI
        obtain ⟨q, eq, hq, hqB⟩ : NewP w2.heap.size ⟨sg, kd, ky, at_, sz⟩ v24 w3 := hf _ (List.Mem.head _) (by kernel_rfl)
        clear hf
        subst eq
        obtain ⟨v1, w1, hrun, h2, h3, h4⟩ := pl_run 0 (.slice A l.length c) l [⟨sg, kd, ky, at_, sz⟩] (some ⟨q, 0, none⟩) 1 1 (by rw [← HEV.out]; exact hI) rfl (fun _ => ⟨_, rfl, fun j u hu => cells_of_box hq j u hu⟩) (Nat.zero_le _) (by omega)
        exact growAt_append (.tmp 22) (.tmp 24) 48 rfl rfl rfl ⟨v1, w1, hrun, KeepS.of_grown h3 (fun k e => by rw [HEV.out]; exact e), ⟨h2, by rw [HEV.out]; exact h4.imp id fun h => ⟨_, h, hk.size⟩⟩, trivial⟩
      case hJ => exact fun v a c h hh => RowIs.grows hh h
      case hm => exact fun _ _ _ _ _ => trivial
      intro v25
      simp only [Act.put, List.setIfInBounds_toArray, List.set_cons_zero, List.set_cons_succ]
      apply phase_fixed
      case hw => simp [Region.wanted, yielded]
      case ho =>
        intro w3 hk hf
        clear hf
        refine ⟨?_⟩
        go_simp
        exact ⟨Grows.refl _, rfl⟩
      simp only [Act.put, List.setIfInBounds_toArray, List.set_cons_zero, List.set_cons_succ]
      refine phase_nil fun w9 hk hI hf => ?_
      clear hf
      have hI := Aside0.mk hI
      obtain ⟨cs, hb2, hsz, hcv, hc64⟩ := HB2.out.blk
      have hb9 := (hk.block d HB2.out.lt fun e => (HB2.out.mine _ hrow d e).2 rfl).trans hb2
      obtain ⟨A25, c25, e25, _⟩ := own_slice hI.out.own
      obtain ⟨n25, hn25⟩ : ∃ n, n = (l ++ [(⟨sg, kd, ky, at_, sz⟩ : Pl)]).length := ⟨_, rfl⟩
      rw [← hn25] at e25
      have HN25 := Aside0.mk hn25
      clear hn25
      subst e25
      have q1' := HCK.out w9 hk
      have f1 : w9.frozen? ⟨d, rowOf ky, none⟩ = false := frozen_of_row _ d _ _ 51 hb9
      have hb10 := heap_spl d [.slice A25 n25 c25] (rowOf ky) w9 _ hb9
      have hb11 := heap_spl d [.int .i64 ((m.length : Int) + 1)] 64 _ _ hb10
      have p64 : (w9.setCell ⟨d, rowOf ky, none⟩ (.slice A25 n25 c25)).cell? ⟨d, 64, none⟩ = some (.int .i64 m.length) := by
        refine (cell_of_row _ d 64 _ 51 (0, 0) hb10).trans ?_
        show (cs.setIfInBounds (rowOf ky) _)[64]? = _
        rw [Array.getElem?_setIfInBounds_ne (by omega)]; exact hc64
      have f64 : (w9.setCell ⟨d, rowOf ky, none⟩ (.slice A25 n25 c25)).frozen? ⟨d, 64, none⟩ = false := frozen_of_row _ d _ _ 51 hb10
      have hne : (q1 + 1) ≠ d := fun e => by have := HO.out d HB2.out.od; have := HLN2.out; have := HE1.out; omega
      have HP10 := Aside0.mk (((HBK2.out w9 hk).keep (Below.heap_setCell w9 ⟨d, rowOf ky, none⟩ (.slice A25 n25 c25) (q1 + 1) hne)).keep (Below.heap_setCell _ ⟨d, 64, none⟩ (.int .i64 ((m.length : Int) + 1)) (q1 + 1) hne))
      have d0 := HP10.out.c0; have d1 := HP10.out.c1; have d2 := HP10.out.c2; have d3 := HP10.out.c3; have d4 := HP10.out.c4
      have f0 := HP10.out.fr 0; have f1' := HP10.out.fr 1; have f2 := HP10.out.fr 2; have f3 := HP10.out.fr 3; have f4 := HP10.out.fr 4
      have hw : IntKind.i64.wrap ((m.length : Int) + 1) = (m.length : Int) + 1 := IntWalk.i64_in _ ⟨by omega, by omega⟩
      have HF := Aside0.mk (show DirB ((w9.setCell ⟨d, rowOf ky, none⟩ (.slice A25 n25 c25)).setCell ⟨d, 64, none⟩ (.int .i64 ((m.length : Int) + 1))) (fun k => O k ∨ w2.heap.size ≤ k) d (setR rs (rowOf ky) (l ++ [(⟨sg, kd, ky, at_, sz⟩ : Pl)])) (fun i => if i = rowOf ky then (.slice A25 n25 c25) else vs i) (m.length + 1) from
        HB2.out.turn (W6 := w9) hrow (fun k hlt hne => hk.block k hlt hne) hI.out.own (fun k e => hI.out.loc.elim (fun h => .inl (h.symm.trans e)) fun ⟨k2, h2, h3⟩ => .inr (by rw [h2] at e; injection e with e; subst e; exact ⟨h3, .inr h3⟩)) (fun k hk => .inl hk)
          (fun k hk => (Below.heap_setCell _ ⟨d, 64, none⟩ _ k hk).trans (Below.heap_setCell _ ⟨d, rowOf ky, none⟩ _ k hk))
          ⟨_, hb11, by rw [spl_size, spl_size]; exact hsz, fun i hi => by
            show ((cs.setIfInBounds (rowOf ky) _).setIfInBounds 64 _)[i]? = _
            rw [Array.getElem?_setIfInBounds_ne (by omega)]
            by_cases e : i = rowOf ky
            · subst e; rw [if_pos rfl, Array.getElem?_setIfInBounds_self_of_lt (by omega)]
            · rw [if_neg e, Array.getElem?_setIfInBounds_ne (fun e2 => e e2.symm)]; exact hcv i hi,
          by
            show ((cs.setIfInBounds (rowOf ky) _).setIfInBounds 64 _)[64]? = _
            rw [Array.getElem?_setIfInBounds_self_of_lt (by simp; omega)]; rfl⟩)
      have HK := Aside0.mk (show KeepS (fun k => O k ∨ q1 ≤ k) W ((w9.setCell ⟨d, rowOf ky, none⟩ (.slice A25 n25 c25)).setCell ⟨d, 64, none⟩ (.int .i64 ((m.length : Int) + 1))) from
        (KeepS.of_grows HGG.out).trans ((hk.mono fun k _ e => .inl (HB2.out.mine _ hrow k e).1).trans ((KeepS.of_grown (grown_set _ d _ _) fun k e => by injection e with e; subst e; exact .inl HB2.out.od).trans (KeepS.of_grown (grown_set _ d _ _) fun k e => by injection e with e; subst e; exact .inl HB2.out.od))))
      have HFIN := Aside0.mk (show DPost W O d (putM m (⟨sg, kd, ky, at_, sz⟩ : Pl)) (.tuple #[.agg ((getM m ky).getD zeroPl).cells, .bool (getM m ky).isSome]) (.returned (.tuple #[.agg zeroPl.cells, .bool false])) (World.setCells ((w9.setCell ⟨d, rowOf ky, none⟩ (.slice A25 n25 c25)).setCell ⟨d, 64, none⟩ (.int .i64 ((m.length : Int) + 1))) (q1 + 1) 0 zeroPl.vals) from by
        refine ⟨by rw [HGM.out]; rfl, fun k => O k ∨ w2.heap.size ≤ k, ?_, ?_, fun k hk => hk.elim .inl fun h => .inr (Nat.le_trans HGG.out.size h)⟩
        · have hrel := HR.out.put_new (⟨sg, kd, ky, at_, sz⟩ : Pl) hrow (by rw [HR.out.get _ hrow]; exact HGM.out)
          dsimp only at hrel
          rw [HLE.out] at hrel
          refine ⟨_, (fun i => if i = rowOf ky then (.slice A25 n25 c25) else vs i), ?_, hrel⟩
          rw [put_len_none (p := (⟨sg, kd, ky, at_, sz⟩ : Pl)) HGM.out]
          refine HF.out.keep (fun k hk _ => heap_spl_ne (q1 + 1) _ 0 _ k fun e => ?_) fun k hk _ => hk
          rcases hk with hk | hk
          · have := HO.out k hk; have := HE1.out; omega
          · have := lt_heap HP2.out.blk; omega
        · exact keep_new (by rw [HE1.out]; exact HK.out.trans (KeepS.of_grown (grown_spl (q1 + 1) _ 0 _) fun k e => by injection e with e; subst e; exact .inr (by omega))))
      clear hb2 hb9 hb10 hb11 hcv hc64 hsz hk hne HCK HBK HBK2
      refine ⟨by simp [Region.wanted, yielded], ⟨?_⟩⟩
      go_simp
      simp only [growUpon]
      go_wp2
      exact bodyPost_ret (results_box_tmp (fn := Try.f20) (p := 4) (u := 5) rfl _ _ (q1 + 1) zeroPl rfl (HP10.out.set zeroPl)) rfl HFIN.out
    case ht => kernel_rfl
end Go.Proofs.Ytomlnflblecpbaa

/-
  Layer 13: Many, New.
-/
namespace Go.Proofs.Ytomlnflblecpbaa
set_option linter.unusedVariables false
set_option linter.unusedSimpArgs false
open Go.RowKit Go.Proofs.YtomlnflblecpbaaW.PrintWords Go.Proofs.YtomlnflblecpbaaW.PrintMore
attribute [local go_sem] max2_int min2_int
set_option maxRecDepth 100000 in
theorem many_calls {W : World} {O : Nat → Prop} {d : Nat} {m : List Pl} (h : DirM W O d m) : Calls Try.prog 22 #[.pointer (some ⟨d, 0, none⟩)] W fun e w' => e = .returned (.int .i64 m.length) ∧ w' = W := by
  obtain ⟨rs, vs, hB, hR⟩ := h
  have q1 := hB.c64
  clear hB hR
  go_enter Try.func22, Try.ntmps22
  go_wp2
  go_ret
  exact ⟨rfl, rfl⟩
def zero65 : Array Value := (Array.replicate 64 (.slice none 0 0)).push (.int .i64 0)
theorem info51 : (Try.prog.info? 51).map (fun i => i.zero) = some (some (.agg zero65)) := by kernel_rfl
theorem zero51 (w : World) : (zeroValue 51).run Try.prog w = .ok (.agg zero65) w := by
  obtain ⟨i, hi, hz⟩ := Option.map_eq_some_iff.1 info51
  simp [zeroValue, typeInfo, hi, hz]
theorem zero65_at (i : Nat) (hi : i < 64) : zero65[i]? = some (.slice none 0 0) := by
  unfold zero65
  rw [Array.getElem?_push, if_neg (by simp; omega), Array.getElem?_replicate, if_pos hi]
theorem zero65_last : zero65[64]? = some (.int .i64 0) := by
  unfold zero65
  rw [Array.getElem?_push, if_pos (by simp)]
theorem zero65_size : zero65.size = 65 := by unfold zero65; simp
set_option maxRecDepth 100000 in
set_option maxHeartbeats 1000000 in
theorem new_calls (W : World) : Calls Try.prog 10 #[] W fun e w' => ∃ d, e = .returned (.pointer (some ⟨d, 0, none⟩)) ∧ DirM w' (fun k => W.heap.size ≤ k ∧ k < w'.heap.size) d [] ∧ Grows W w' := by
  have hz := zero51
  go_enter Try.func10, Try.ntmps10
  go_wp2
  go_ret
  exact ⟨_, rfl, ⟨fun _ => [], fun _ => .slice none 0 0, ⟨⟨zero65, heap_alloc_new W _, zero65_size, zero65_at, zero65_last⟩, fun i hi => World.ownsRow_nil _ _ _ _, fun i _ k e => (by cases e), fun i j _ _ _ k e => (by cases e), ⟨Nat.le_refl _, lt_heap (heap_alloc_new W _)⟩⟩, Rel.nil rowOf⟩, (Below.refl W.heap.size W).alloc (Nat.le_refl _) _⟩
end Go.Proofs.Ytomlnflblecpbaa
