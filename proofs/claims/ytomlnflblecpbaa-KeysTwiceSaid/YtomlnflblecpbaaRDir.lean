/-
  Layer 13: the document's directory as it lies in memory; what it tells.
-/
import Derived.Test.YtomlnflblecpbaaFrom
import Derived.Test.YtomlnflblecpbaaChain
namespace Go.Proofs.Ytomlnflblecpbaa
set_option linter.unusedVariables false
set_option linter.unusedSimpArgs false
open Go.RowKit Go.Proofs.YtomlnflblecpbaaW.PrintWords Go.Proofs.YtomlnflblecpbaaW.PrintMore
attribute [local go_sem] max2_int min2_int
/-- The document's directory: one row of places. -/
structure RDB (W : World) (O : Nat → Prop) (g : Nat) (m : List Pl) (v : Value) : Prop where
  blk : W.heap[g]? = some (.cells #[v] 53 (0, 0))
  row : W.ownsRow 0 32 5 v m.length (flatP m)
  mine : ∀ k, v.ownBlock = some k → O k
  og : O g
def RD (W : World) (O : Nat → Prop) (g : Nat) (m : List Pl) : Prop := ∃ v, RDB W O g m v
section
variable {W W' : World} {O : Nat → Prop} {g : Nat} {m : List Pl} {v : Value}
theorem RDB.lt (h : RDB W O g m v) : g < W.heap.size := lt_heap h.blk
theorem RDB.c0 (h : RDB W O g m v) : W.cell? ⟨g, 0, none⟩ = some v := cell_of_row W g 0 _ 53 (0, 0) h.blk
theorem RDB.fr (h : RDB W O g m v) (j : Nat) : W.frozen? ⟨g, j, none⟩ = false := frozen_of_row W g j _ 53 h.blk
theorem RDB.keep {O' : Nat → Prop} (h : RDB W O g m v) (hk : ∀ k, O k → k < W.heap.size → W'.heap[k]? = W.heap[k]?) (hO : ∀ k, O k → k < W.heap.size → O' k) : RDB W' O' g m v :=
  ⟨(hk g h.og h.lt).trans h.blk, own_move h.row fun k e => hk k (h.mine k e) (own_lt h.row k e), fun k e => hO k (h.mine k e) (own_lt h.row k e), hO g h.og h.lt⟩
theorem RDB.grows (h : RDB W O g m v) (hg : Grows W W') : RDB W' O g m v := h.keep (fun k _ hlt => hg.block k hlt) fun k hk _ => hk
theorem RD.keep {O' : Nat → Prop} (h : RD W O g m) (hk : ∀ k, O k → k < W.heap.size → W'.heap[k]? = W.heap[k]?) (hO : ∀ k, O k → k < W.heap.size → O' k) : RD W' O' g m := h.elim fun v h => ⟨v, h.keep hk hO⟩
theorem RD.grows (h : RD W O g m) (hg : Grows W W') : RD W' O g m := h.elim fun v h => ⟨v, h.grows hg⟩
end
theorem getM_at {m : List Pl} {key : ByteArray} {i : Nat} (hi : i < m.length) (h : ∀ k (hk : k < m.length), k < i → m[k].key ≠ key) (he : m[i].key = key) : getM m key = some m[i] := by
  unfold getM
  rw [List.find?_eq_some_iff_getElem]
  refine ⟨decide_eq_true he, i, hi, rfl, fun j hj => ?_⟩
  have := h j (by omega) hj
  simp [this]
theorem key_eqb {a b : ByteArray} (h : (a.toList == b.toList) = true) : a = b := by rw [key_beq] at h; exact of_decide_eq_true h
theorem key_neb {a b : ByteArray} (h : (a.toList == b.toList) = false) : a ≠ b := by rw [key_beq] at h; exact of_decide_eq_false h
set_option maxRecDepth 100000 in
set_option maxHeartbeats 2000000 in
theorem rget_calls {W : World} {O : Nat → Prop} {g : Nat} {m : List Pl} (h : RD W O g m) (key : ByteArray) (hm : m.length ≤ 1000000) :
    Calls Try.prog 16 #[.pointer (some ⟨g, 0, none⟩), .string key] W fun e w' => e = .returned (.tuple #[.agg ((getM m key).getD zeroPl).cells, .bool (getM m key).isSome]) ∧ Grows W w' := by
  obtain ⟨v, h⟩ := h
  have g0 : Grows W (W.alloc (.cells zeroPl.cells 32)) := (Below.refl W.heap.size W).alloc (Nat.le_refl _) _
  have h1 := h.grows g0
  obtain ⟨A, c, ev, hc, hr⟩ := reads_of_own h1.row
  have hcell := h1.c0
  rw [ev] at hcell
  have HQ := Aside0.mk (PBox.new W zeroPl)
  have HG := Aside0.mk g0
  have HRD := Aside0.mk hr
  clear h h1 ev hr g0
  go_enter Try.func16, Try.ntmps16
  go_upto_region 1 with fail
  change Code.wp _ _ _ _ (W.alloc (.cells zeroPl.cells 32))
  generalize W.alloc (.cells zeroPl.cells 32) = W1 at *
  have HQS := Aside0.mk (Nat.le_refl W.heap.size)
  generalize hq : W.heap.size = q at HQ ⊢
  have HQE := Aside0.mk hq
  clear hq HQS
  go_wp2
  go_loopg [6] m.length (fun f v6 wr => ∃ i : Nat, Aside0 (f + i = m.length) ∧ i ≤ m.length ∧ v6 = .int .i64 i ∧ wr = W1 ∧ Aside0 (∀ k (hk : k < m.length), k < i → m[k].key ≠ key))
  case atStart => exact ⟨0, ⟨by omega⟩, by omega, rfl, rfl, ⟨fun k hk h => by omega⟩⟩
  case round =>
    obtain ⟨i, HF, hi, rfl, rfl, HS⟩ := hrel
    by_cases hlt : i < m.length
    · obtain ⟨b, ea, hp⟩ := HRD.out (by omega)
      obtain ⟨k0, k1, k2, k3, k4⟩ := hp i hlt
      subst ea
      clear hp HRD
      obtain ⟨x, hx⟩ : ∃ x, m[i] = x := ⟨_, rfl⟩
      rw [hx] at k0 k1 k2 k3 k4
      have HX := Aside0.mk hx
      clear hx
      obtain ⟨a1, a2, a3, a4, a5⟩ := x
      dsimp only at k0 k1 k2 k3 k4
      cases hkb : (a3.toList == key.toList) with
      | true =>
        have HK := Aside0.mk (getM_at hlt HS.out (by rw [HX.out]; exact key_eqb hkb))
        rw [HX.out] at HK
        have f0 := HQ.out.fr 0; have f1 := HQ.out.fr 1; have f2 := HQ.out.fr 2; have f3 := HQ.out.fr 3; have f4 := HQ.out.fr 4
        have d0 := HQ.out.c0; have d1 := HQ.out.c1; have d2 := HQ.out.c2; have d3 := HQ.out.c3; have d4 := HQ.out.c4
        go_wp2
        exact bodyPost_ret (results_box_tmp rfl _ _ q ⟨a1, a2, a3, a4, a5⟩ rfl (HQ.out.set ⟨a1, a2, a3, a4, a5⟩)) rfl ⟨by rw [HK.out]; rfl, below_setCells (vs := Pl.vals ⟨a1, a2, a3, a4, a5⟩) HG.out (by rw [HQE.out]; exact Nat.le_refl _)⟩
      | false =>
        have HK := Aside0.mk (key_neb hkb)
        go_wp2
        go_roundg (m.length - (i + 1))
        case measure => have := HF.out; omega
        case rel =>
          refine ⟨i + 1, ⟨by omega⟩, by omega, by go_num, rfl, ⟨fun k hk h => ?_⟩⟩
          by_cases hki : k = i
          · subst hki; rw [HX.out]; exact HK.out
          · exact HS.out k hk (by omega)
    · obtain rfl : i = m.length := by omega
      have HK := Aside0.mk (getM_none.2 fun p hp => by obtain ⟨k, hk, rfl⟩ := List.getElem_of_mem hp; exact HS.out k hk hk)
      have f0 := HQ.out.fr 0; have f1 := HQ.out.fr 1; have f2 := HQ.out.fr 2; have f3 := HQ.out.fr 3; have f4 := HQ.out.fr 4
      have d0 := HQ.out.c0; have d1 := HQ.out.c1; have d2 := HQ.out.c2; have d3 := HQ.out.c3; have d4 := HQ.out.c4
      go_wp2
      exact bodyPost_ret (results_box_tmp rfl _ _ q zeroPl rfl (HQ.out.set zeroPl)) rfl ⟨by rw [HK.out]; rfl, below_setCells (vs := zeroPl.vals) HG.out (by rw [HQE.out]; exact Nat.le_refl _)⟩
set_option maxRecDepth 100000 in
theorem rmany_calls {W : World} {O : Nat → Prop} {g : Nat} {m : List Pl} (h : RD W O g m) : Calls Try.prog 23 #[.pointer (some ⟨g, 0, none⟩)] W fun e w' => e = .returned (.int .i64 m.length) ∧ w' = W := by
  obtain ⟨v, h⟩ := h
  obtain ⟨A, c, rfl, hc, hr⟩ := reads_of_own h.row
  have hcell := h.c0
  clear h hr
  go_enter Try.func23, Try.ntmps23
  go_wp2
  go_ret
  exact ⟨rfl, rfl⟩
set_option maxRecDepth 100000 in
theorem rnew_calls (W : World) : Calls Try.prog 11 #[] W fun e w' => ∃ g, e = .returned (.pointer (some ⟨g, 0, none⟩)) ∧ RD w' (fun k => W.heap.size ≤ k) g [] ∧ Grows W w' := by
  go_enter Try.func11, Try.ntmps11
  go_wp2
  go_ret
  exact ⟨_, rfl, ⟨.slice none 0 0, ⟨heap_alloc_new W _, World.ownsRow_nil _ _ _ _, fun k e => (by cases e), Nat.le_refl _⟩⟩, (Below.refl W.heap.size W).alloc (Nat.le_refl _) _⟩
end Go.Proofs.Ytomlnflblecpbaa
