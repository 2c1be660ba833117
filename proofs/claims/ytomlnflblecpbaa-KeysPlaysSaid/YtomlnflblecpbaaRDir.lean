/-
  Layer 13: the document's directory as it lies in memory; what it tells.
-/
import Derived.Test.YtomlnflblecpbaaFrom
import Derived.Test.YtomlnflblecpbaaChain
import Derived.Laws.Cover1
namespace Go.Proofs.Ytomlnflblecpbaa
set_option linter.unusedVariables false
set_option linter.unusedSimpArgs false
open Go.RowKit Go.Proofs.YtomlnflblecpbaaW.PrintWords Go.Proofs.YtomlnflblecpbaaW.PrintMore
attribute [local go_sem] max2_int min2_int
/-- The document's directory: one row of places. -/
structure RDB (W : World) (O : Nat → Prop) (g : Nat) (m : List Pl) (v : Value) : Prop where
  blk : W.heap[g]? = some (.cells #[v] 53 (0, 0))
  row : W.ownsRow 0 32 5 v m.length (flatP m)
  mine : ∀ k, v.ownBlock = some k → O k
  og : O g
def RD (W : World) (O : Nat → Prop) (g : Nat) (m : List Pl) : Prop := ∃ v, RDB W O g m v
section
variable {W W' : World} {O : Nat → Prop} {g : Nat} {m : List Pl} {v : Value}
theorem RDB.lt (h : RDB W O g m v) : g < W.heap.size := lt_heap h.blk
theorem RDB.c0 (h : RDB W O g m v) : W.cell? ⟨g, 0, none⟩ = some v := cell_of_row W g 0 _ 53 (0, 0) h.blk
theorem RDB.fr (h : RDB W O g m v) (j : Nat) : W.frozen? ⟨g, j, none⟩ = false := frozen_of_row W g j _ 53 h.blk
theorem RDB.keep {O' : Nat → Prop} (h : RDB W O g m v) (hk : ∀ k, O k → k < W.heap.size → W'.heap[k]? = W.heap[k]?) (hO : ∀ k, O k → k < W.heap.size → O' k) : RDB W' O' g m v :=
  ⟨(hk g h.og h.lt).trans h.blk, own_move h.row fun k e => hk k (h.mine k e) (own_lt h.row k e), fun k e => hO k (h.mine k e) (own_lt h.row k e), hO g h.og h.lt⟩
theorem RDB.grows (h : RDB W O g m v) (hg : Grows W W') : RDB W' O g m v := h.keep (fun k _ hlt => hg.block k hlt) fun k hk _ => hk
theorem RD.keep {O' : Nat → Prop} (h : RD W O g m) (hk : ∀ k, O k → k < W.heap.size → W'.heap[k]? = W.heap[k]?) (hO : ∀ k, O k → k < W.heap.size → O' k) : RD W' O' g m := h.elim fun v h => ⟨v, h.keep hk hO⟩
theorem RD.grows (h : RD W O g m) (hg : Grows W W') : RD W' O g m := h.elim fun v h => ⟨v, h.grows hg⟩
end
theorem getM_at {m : List Pl} {key : ByteArray} {i : Nat} (hi : i < m.length) (h : ∀ k (hk : k < m.length), k < i → m[k].key ≠ key) (he : m[i].key = key) : getM m key = some m[i] := by
  unfold getM
  rw [List.find?_eq_some_iff_getElem]
  refine ⟨decide_eq_true he, i, hi, rfl, fun j hj => ?_⟩
  have := h j (by omega) hj
  simp [this]
theorem key_eqb {a b : ByteArray} (h : (a.toList == b.toList) = true) : a = b := by rw [key_beq] at h; exact of_decide_eq_true h
theorem key_neb {a b : ByteArray} (h : (a.toList == b.toList) = false) : a ≠ b := by rw [key_beq] at h; exact of_decide_eq_false h
set_option maxRecDepth 100000 in
set_option maxHeartbeats 2000000 in
theorem rget_calls {W : World} {O : Nat → Prop} {g : Nat} {m : List Pl} (h : RD W O g m) (key : ByteArray) (hm : m.length ≤ 1000000) :
    Calls Try.prog 16 #[.pointer (some ⟨g, 0, none⟩), .string key] W fun e w' => e = .returned (.tuple #[.agg ((getM m key).getD zeroPl).cells, .bool (getM m key).isSome]) ∧ Grows W w' := by
  obtain ⟨v, h⟩ := h
  have g0 : Grows W (W.alloc (.cells zeroPl.cells 32)) := (Below.refl W.heap.size W).alloc (Nat.le_refl _) _
  have h1 := h.grows g0
  obtain ⟨A, c, ev, hc, hr⟩ := reads_of_own h1.row
  have hcell := h1.c0
  rw [ev] at hcell
  have HQ := Aside0.mk (PBox.new W zeroPl)
  have HG := Aside0.mk g0
  have HRD := Aside0.mk hr
  clear h h1 ev hr g0
  go_enter Try.func16, Try.ntmps16
  go_upto_region 1 with fail
  change Code.wp _ _ _ _ (W.alloc (.cells zeroPl.cells 32))
  generalize W.alloc (.cells zeroPl.cells 32) = W1 at *
  have HQS := Aside0.mk (Nat.le_refl W.heap.size)
  generalize hq : W.heap.size = q at HQ ⊢
  have HQE := Aside0.mk hq
  clear hq HQS
  go_wp2
  go_loopg [6] m.length (fun f v6 wr => ∃ i : Nat, Aside0 (f + i = m.length) ∧ i ≤ m.length ∧ v6 = .int .i64 i ∧ wr = W1 ∧ Aside0 (∀ k (hk : k < m.length), k < i → m[k].key ≠ key))
  case atStart => exact ⟨0, ⟨by omega⟩, by omega, rfl, rfl, ⟨fun k hk h => by omega⟩⟩
  case round =>
    obtain ⟨i, HF, hi, rfl, rfl, HS⟩ := hrel
    by_cases hlt : i < m.length
    · obtain ⟨b, ea, hp⟩ := HRD.out (by omega)
      obtain ⟨k0, k1, k2, k3, k4⟩ := hp i hlt
      subst ea
      clear hp HRD
      obtain ⟨x, hx⟩ : ∃ x, m[i] = x := ⟨_, rfl⟩
      rw [hx] at k0 k1 k2 k3 k4
      have HX := Aside0.mk hx
      clear hx
      obtain ⟨a1, a2, a3, a4, a5⟩ := x
      dsimp only at k0 k1 k2 k3 k4
      cases hkb : (a3.toList == key.toList) with
      | true =>
        have HK := Aside0.mk (getM_at hlt HS.out (by rw [HX.out]; exact key_eqb hkb))
        rw [HX.out] at HK
        have f0 := HQ.out.fr 0; have f1 := HQ.out.fr 1; have f2 := HQ.out.fr 2; have f3 := HQ.out.fr 3; have f4 := HQ.out.fr 4
        have d0 := HQ.out.c0; have d1 := HQ.out.c1; have d2 := HQ.out.c2; have d3 := HQ.out.c3; have d4 := HQ.out.c4
        go_wp2
        exact bodyPost_ret (results_box_tmp rfl _ _ q ⟨a1, a2, a3, a4, a5⟩ rfl (HQ.out.set ⟨a1, a2, a3, a4, a5⟩)) rfl ⟨by rw [HK.out]; rfl, below_setCells (vs := Pl.vals ⟨a1, a2, a3, a4, a5⟩) HG.out (by rw [HQE.out]; exact Nat.le_refl _)⟩
      | false =>
        have HK := Aside0.mk (key_neb hkb)
        go_wp2
        go_roundg (m.length - (i + 1))
        case measure => have := HF.out; omega
        case rel =>
          refine ⟨i + 1, ⟨by omega⟩, by omega, by go_num, rfl, ⟨fun k hk h => ?_⟩⟩
          by_cases hki : k = i
          · subst hki; rw [HX.out]; exact HK.out
          · exact HS.out k hk (by omega)
    · obtain rfl : i = m.length := by omega
      have HK := Aside0.mk (getM_none.2 fun p hp => by obtain ⟨k, hk, rfl⟩ := List.getElem_of_mem hp; exact HS.out k hk hk)
      have f0 := HQ.out.fr 0; have f1 := HQ.out.fr 1; have f2 := HQ.out.fr 2; have f3 := HQ.out.fr 3; have f4 := HQ.out.fr 4
      have d0 := HQ.out.c0; have d1 := HQ.out.c1; have d2 := HQ.out.c2; have d3 := HQ.out.c3; have d4 := HQ.out.c4
      go_wp2
      exact bodyPost_ret (results_box_tmp rfl _ _ q zeroPl rfl (HQ.out.set zeroPl)) rfl ⟨by rw [HK.out]; rfl, below_setCells (vs := zeroPl.vals) HG.out (by rw [HQE.out]; exact Nat.le_refl _)⟩
set_option maxRecDepth 100000 in
theorem rmany_calls {W : World} {O : Nat → Prop} {g : Nat} {m : List Pl} (h : RD W O g m) : Calls Try.prog 23 #[.pointer (some ⟨g, 0, none⟩)] W fun e w' => e = .returned (.int .i64 m.length) ∧ w' = W := by
  obtain ⟨v, h⟩ := h
  obtain ⟨A, c, rfl, hc, hr⟩ := reads_of_own h.row
  have hcell := h.c0
  clear h hr
  go_enter Try.func23, Try.ntmps23
  go_wp2
  go_ret
  exact ⟨rfl, rfl⟩
set_option maxRecDepth 100000 in
theorem rnew_calls (W : World) : Calls Try.prog 11 #[] W fun e w' => ∃ g, e = .returned (.pointer (some ⟨g, 0, none⟩)) ∧ RD w' (fun k => W.heap.size ≤ k) g [] ∧ Grows W w' := by
  go_enter Try.func11, Try.ntmps11
  go_wp2
  go_ret
  exact ⟨_, rfl, ⟨.slice none 0 0, ⟨heap_alloc_new W _, World.ownsRow_nil _ _ _ _, fun k e => (by cases e), Nat.le_refl _⟩⟩, (Below.refl W.heap.size W).alloc (Nat.le_refl _) _⟩
end Go.Proofs.Ytomlnflblecpbaa

/-
  Layer 13: the document's List, From; a row without a key.
-/
namespace Go.Proofs.Ytomlnflblecpbaa
set_option linter.unusedVariables false
set_option linter.unusedSimpArgs false
open Go.RowKit Go.Proofs.YtomlnflblecpbaaW.PrintWords Go.Proofs.YtomlnflblecpbaaW.PrintMore
attribute [local go_sem] max2_int min2_int
set_option maxRecDepth 100000 in
set_option maxHeartbeats 2000000 in
theorem rlist_calls {W : World} {O : Nat → Prop} {g : Nat} {m : List Pl} (h : RD W O g m) (hm : m.length ≤ 100000) :
    Calls Try.prog 25 #[.pointer (some ⟨g, 0, none⟩)] W fun e w' => ∃ v, e = .returned v ∧ ToldS (keysM m) v w' ∧ Grows W w' := by
  obtain ⟨v, h⟩ := h
  obtain ⟨A, c, rfl, hc, hr⟩ := reads_of_own h.row
  have HB := Aside0.mk h
  have HRD := Aside0.mk hr
  clear h hr
  go_enter Try.func25, Try.ntmps25
  go_wp2
  go_loopg [3, 4] m.length (fun f v3 v4 wr => ∃ i : Nat, Aside0 (f + i = m.length) ∧ i ≤ m.length ∧ v4 = .int .i64 i ∧ Aside0 (LSt W wr v3 ((m.take i).map (·.key))))
  case atStart => exact ⟨0, ⟨by omega⟩, by omega, rfl, ⟨⟨Grows.refl _, own_nil _ _ _ _⟩⟩⟩
  case round =>
    obtain ⟨i, HF, hi, rfl, HS⟩ := hrel
    have hcell := (HB.out.grows HS.out.g).c0
    by_cases hlt : i < m.length
    · obtain ⟨b, ea, hp⟩ := (HRD.out.grows HS.out.g) (by omega)
      obtain ⟨k0, k1, k2, k3, k4⟩ := hp i hlt
      subst ea
      have HKT := Aside0.mk (keys_take hlt)
      clear hp HRD
      generalize m[i] = p at k0 k1 k2 k3 k4 HKT
      obtain ⟨a1, a2, a3, a4, a5⟩ := p
      dsimp only at k0 k1 k2 k3 k4
      obtain ⟨v4, w4, hr, hS4⟩ := HS.out.app a3 (by rw [List.length_map, List.length_take]; omega)
      have HS4 := Aside0.mk hS4
      clear hS4 HS
      go_wp2_with (at_builtin; refine wpList_appendE (.tmp 14) (.tmp 24) 38 rfl rfl rfl rfl ⟨_, _, hr, ?_⟩; clear hr)
      go_roundg (m.length - (i + 1))
      case measure => have := HF.out; omega
      case rel => exact ⟨i + 1, ⟨by omega⟩, by omega, by go_num, ⟨by rw [HKT.out]; exact HS4.out⟩⟩
    · obtain rfl : i = m.length := by omega
      have HT := Aside0.mk (show ToldS (keysM m) u3 wr by have := own_told HS.out.own; rw [List.take_length] at this; exact this)
      go_wp2
      go_ret
      exact ⟨_, rfl, HT.out, HS.out.g⟩
/-- append at a row of places, one behind the other. -/
theorem pl_chain {W : World} (B : Nat) (v : Value) (l l2 : List Pl) (A : Option Addr) (m c : Nat) (HO : ChainE W B 32 5 v l.length (flatP l)) (hm : l2.length = m)
    (hcells : 0 < m → ∃ ad, A = some ad ∧ ∀ j u, (flatP l2)[j]? = some u → W.cell? (ad.add j) = some u) (hbase : B ≤ W.heap.size) (hl : l.length + m ≤ 1000000) :
    ∃ v1 w1, (Builtin.append_ #[47, 47] 47 #[v, .slice A m c]).run Try.prog W = .ok v1 w1 ∧ ChainE w1 B 32 5 v1 (l ++ l2).length (flatP (l ++ l2)) ∧ OneC B 32 5 W w1 := by
  obtain ⟨i0, hi, hz0, hz1, hz2⟩ := parts3 info32
  obtain ⟨v1, w1, hr, h2, h3⟩ := append_chain (P := Try.prog) B 47 47 32 i0 (.agg #[.int .i64 0, .int .i64 0, .string ⟨#[]⟩, .int .i64 0, .int .i64 0]) 5 48 Try.underlying47 hi hz0 hz1 hz2 rfl (by omega) v l.length (flatP l) HO (flatP_one l) A m c (flatP l2) (by rw [flatP_len, hm]) hcells (flatP_one l2) (by simp only [maxLen]; omega) (by omega) hbase
  exact ⟨v1, w1, hr, by rw [flatP_app, List.length_append, hm]; exact h2, h3⟩
theorem cells_box {W : World} {q : Nat} {p : Pl} (h : W.heap[q]? = some (.cells p.cells 32 (0, 0))) (m : Nat) (hm : m = 1) : 0 < m → ∃ ad, some (⟨q, 0, none⟩ : Addr) = some ad ∧ ∀ j u, (flatP [p])[j]? = some u → W.cell? (ad.add j) = some u := fun _ => ⟨_, rfl, cells_of_box h⟩
theorem ownE_own {W : World} {B e size n : Nat} {v : Value} {xs : List Value} (h : ChainE W B e size v n xs) (hn : 0 < n) : W.ownsRow B e size v n xs := by
  rcases h.own with ⟨_, _, h0, _⟩ | h
  · omega
  · exact h
/-- What `without` has gathered. -/
structure WSt (W0 W : World) (v : Value) (l : List Pl) : Prop where
  g : Grows W0 W
  own : ChainE W W0.heap.size 32 5 v l.length (flatP l)
  nil0 : l.length = 0 → v = .slice none 0 0
theorem WSt.row {W0 W : World} {v : Value} {l : List Pl} (h : WSt W0 W v l) : W.ownsRow W0.heap.size 32 5 v l.length (flatP l) := by
  rcases Nat.eq_zero_or_pos l.length with h0 | h0
  · obtain rfl : l = [] := List.eq_nil_of_length_eq_zero h0
    rw [h.nil0 rfl]
    exact World.ownsRow_nil _ _ _ _
  · exact ownE_own h.own h0
theorem WSt.app {W0 W : World} {v : Value} {l : List Pl} (h : WSt W0 W v l) (p : Pl) (hl : l.length + 1 ≤ 1000000) :
    ∃ v1 w1, (Builtin.append_ #[47, 47] 47 #[v, .slice (some ⟨W.heap.size, 0, none⟩) 1 1]).run Try.prog (W.alloc (.cells p.cells 32)) = .ok v1 w1 ∧ WSt W0 w1 v1 (l ++ [p]) := by
  have g1 : Grows W (W.alloc (.cells p.cells 32)) := (Below.refl W.heap.size W).alloc (Nat.le_refl _) _
  obtain ⟨v1, w1, hr, h2, h3⟩ := pl_chain W0.heap.size v l [p] (some ⟨W.heap.size, 0, none⟩) 1 1 (h.own.grows g1) rfl (cells_box (heap_alloc_new W _) 1 rfl) (Nat.le_trans h.g.size g1.size) hl
  exact ⟨v1, w1, hr, (h.g.trans (g1.mono h.g.size)).trans (h3.below (Nat.le_trans h.g.size g1.size)), h2, fun h0 => by simp at h0⟩
theorem del_take {m : List Pl} {key : ByteArray} {i : Nat} (hi : i < m.length) : delM (m.take (i + 1)) key = delM (m.take i) key ++ (if m[i].key = key then [] else [m[i]]) := by
  rw [List.take_succ_eq_append_getElem hi]
  unfold delM
  rw [List.filter_append, List.filter_cons, List.filter_nil]
  by_cases h : m[i].key = key <;> simp [h]
set_option maxRecDepth 100000 in
set_option maxHeartbeats 2000000 in
theorem without_calls {W : World} {A : Option Addr} {c : Nat} {m : List Pl} (hr : ReadsP W A m) (key : ByteArray) (hm : m.length ≤ 100000) :
    Calls Try.prog 29 #[.slice A m.length c, .string key] W fun e w' => ∃ v, e = .returned v ∧ w'.ownsRow W.heap.size 32 5 v (delM m key).length (flatP (delM m key)) ∧ Grows W w' := by
  have HRD := Aside0.mk hr
  clear hr
  go_enter Try.func29, Try.ntmps29
  go_wp2
  go_loopg [5, 6] m.length (fun f v5 v6 wr => ∃ i : Nat, Aside0 (f + i = m.length) ∧ i ≤ m.length ∧ v6 = .int .i64 i ∧ Aside0 (WSt W wr v5 (delM (m.take i) key)))
  case atStart => exact ⟨0, ⟨by omega⟩, by omega, rfl, ⟨⟨Grows.refl _, ChainE.nil none, fun _ => rfl⟩⟩⟩
  case round =>
    obtain ⟨i, HF, hi, rfl, HS⟩ := hrel
    by_cases hlt : i < m.length
    · obtain ⟨b, ea, hp⟩ := (HRD.out.grows HS.out.g) (by omega)
      obtain ⟨k0, k1, k2, k3, k4⟩ := hp i hlt
      subst ea
      have HKT := Aside0.mk (del_take (key := key) hlt)
      have HDL := Aside0.mk (Nat.le_trans (del_length_le (m.take i) key) (by rw [List.length_take]; omega : _ ≤ i))
      clear hp HRD
      generalize m[i] = p at k0 k1 k2 k3 k4 HKT
      obtain ⟨a1, a2, a3, a4, a5⟩ := p
      dsimp only at k0 k1 k2 k3 k4
      cases hkb : (a3.toList == key.toList) with
      | true =>
        have HK := Aside0.mk (key_eqb hkb)
        go_wp2
        go_roundg (m.length - (i + 1))
        case measure => have := HF.out; omega
        case rel => exact ⟨i + 1, ⟨by omega⟩, by omega, by go_num, ⟨by rw [HKT.out, if_pos HK.out, List.append_nil]; exact HS.out⟩⟩
      | false =>
        have HK := Aside0.mk (key_neb hkb)
        obtain ⟨v4, w4, hr, hS4⟩ := HS.out.app ⟨a1, a2, a3, a4, a5⟩ (by have := HDL.out; omega)
        have HS4 := Aside0.mk hS4
        clear hS4 HS
        go_wp2_with (at_builtin; refine wpList_appendE (.tmp 21) (.tmp 26) 47 rfl rfl rfl rfl ⟨_, _, hr, ?_⟩; clear hr)
        go_roundg (m.length - (i + 1))
        case measure => have := HF.out; omega
        case rel => exact ⟨i + 1, ⟨by omega⟩, by omega, by go_num, ⟨by rw [HKT.out, if_neg HK.out]; exact HS4.out⟩⟩
    · obtain rfl : i = m.length := by omega
      have HO := Aside0.mk (by have := HS.out.row; rw [List.take_length] at this; exact this : wr.ownsRow W.heap.size 32 5 u5 (delM m key).length (flatP (delM m key)))
      go_wp2
      go_ret
      exact ⟨_, rfl, HO.out, HS.out.g⟩
theorem from_take {m : List Pl} {key : ByteArray} {i : Nat} (hi : i < m.length) : fromK (keysM (m.take (i + 1))) key = fromK (keysM (m.take i)) key ++ (if klt m[i].key key = true then [] else [m[i].key]) := by
  unfold fromK keysM
  rw [keys_take hi, List.filter_append, List.filter_cons, List.filter_nil]
  cases h : klt m[i].key key <;> simp
theorem from_le (l : List ByteArray) (key : ByteArray) : (fromK l key).length ≤ l.length := List.length_filter_le _ _
theorem from_pre {m : List Pl} {key : ByteArray} (i : Nat) : ∃ s, fromK (keysM m) key = fromK (keysM (m.take i)) key ++ s := by
  refine ⟨fromK (keysM (m.drop i)) key, ?_⟩
  unfold fromK keysM
  rw [← List.filter_append, ← List.map_append, List.take_append_drop]
set_option maxRecDepth 100000 in
set_option maxHeartbeats 2000000 in
theorem rfrom_calls {W : World} {O : Nat → Prop} {g : Nat} {m : List Pl} (h : RD W O g m) (hm : m.length ≤ 100000) (key : ByteArray) (many : Int) :
    Calls Try.prog 19 #[.pointer (some ⟨g, 0, none⟩), .string key, .int .i64 many] W fun e w' => ∃ v, e = .returned v ∧ ToldS ((fromK (keysM m) key).take many.toNat) v w' ∧ Grows W w' := by
  obtain ⟨v, h⟩ := h
  obtain ⟨A, c, rfl, hc, hr⟩ := reads_of_own h.row
  have HB := Aside0.mk h
  have HRD := Aside0.mk hr
  clear h hr
  go_enter Try.func19, Try.ntmps19
  go_wp2
  go_loopg [7, 8] m.length (fun f v7 v8 wr => ∃ i : Nat, Aside0 (f + i = m.length) ∧ i ≤ m.length ∧ v8 = .int .i64 i ∧ Aside0 (LSt W wr v7 (fromK (keysM (m.take i)) key) ∧ (fromK (keysM (m.take i)) key).length ≤ many.toNat))
  case atStart => exact ⟨0, ⟨by omega⟩, by omega, rfl, ⟨⟨⟨Grows.refl _, own_nil _ _ _ _⟩, Nat.zero_le _⟩⟩⟩
  case round =>
    obtain ⟨i, HF, hi, rfl, HS⟩ := hrel
    have hcell := (HB.out.grows HS.out.1.g).c0
    obtain ⟨Av, cv, ev, hcv⟩ := own_slice HS.out.1.own
    subst ev
    have HFL := Aside0.mk (Nat.le_trans (from_le (keysM (m.take i)) key) (by unfold keysM; rw [List.length_map, List.length_take]; omega : _ ≤ i))
    by_cases hlt : i < m.length
    · by_cases hfull : ((fromK (keysM (m.take i)) key).length : Int) < many
      · obtain ⟨b, ea, hp⟩ := (HRD.out.grows HS.out.1.g) (by omega)
        obtain ⟨k0, k1, k2, k3, k4⟩ := hp i hlt
        subst ea
        have HKT := Aside0.mk (from_take (key := key) hlt)
        clear hp HRD
        generalize m[i] = p at k0 k1 k2 k3 k4 HKT
        obtain ⟨a1, a2, a3, a4, a5⟩ := p
        dsimp only at k0 k1 k2 k3 k4
        have hd1 : decide (((fromK (keysM (m.take i)) key).length : Int) < many) = true := decide_eq_true hfull
        have HFU := Aside0.mk hfull
        clear hfull
        obtain ⟨v4, w4, hr, hS4⟩ := HS.out.1.app a3 (by have := HFL.out; omega)
        have HS4 := Aside0.mk hS4
        clear hS4
        cases hkb : Op.bytesLess a3.toList key.toList with
        | true =>
          clear hr
          go_wp2
          go_roundg (m.length - (i + 1))
          case measure => have := HF.out; omega
          case rel => exact ⟨i + 1, ⟨by omega⟩, by omega, by go_num, ⟨by rw [HKT.out, if_pos (show klt a3 key = true from hkb), List.append_nil]; exact HS.out⟩⟩
        | false =>
          have HKB := Aside0.mk (show ¬ klt a3 key = true by unfold klt; rw [hkb]; decide)
          have HLE := Aside0.mk HS.out.2
          clear HS
          go_wp2_with (at_builtin; refine wpList_appendE (.tmp 35) (.tmp 45) 38 rfl rfl rfl rfl ⟨_, _, hr, ?_⟩; clear hr)
          go_roundg (m.length - (i + 1))
          case measure => have := HF.out; omega
          case rel => exact ⟨i + 1, ⟨by omega⟩, by omega, by go_num, ⟨by
            rw [HKT.out, if_neg HKB.out]
            exact ⟨HS4.out, by rw [List.length_append]; have := HFU.out; simp; omega⟩⟩⟩
      · have HT := Aside0.mk (show ToldS ((fromK (keysM m) key).take many.toNat) (.slice Av (fromK (keysM (m.take i)) key).length cv) wr by
          obtain ⟨s, hs⟩ := from_pre (m := m) (key := key) i
          have h1 := HS.out.2
          rw [hs, List.take_append_of_le_length (by omega), List.take_of_length_le (by omega)]
          exact own_told HS.out.1.own)
        have hd1 : decide (((fromK (keysM (m.take i)) key).length : Int) < many) = false := decide_eq_false hfull
        clear hfull
        go_wp2
        go_ret
        exact ⟨_, rfl, HT.out, HS.out.1.g⟩
    · obtain rfl : i = m.length := by omega
      have HT := Aside0.mk (show ToldS ((fromK (keysM m) key).take many.toNat) (.slice Av (fromK (keysM (m.take m.length)) key).length cv) wr by
        have h1 := HS.out.2
        have h2 := own_told HS.out.1.own
        rw [List.take_length] at h1 h2 ⊢
        rw [List.take_of_length_le h1]
        exact h2)
      go_wp2
      go_ret
      exact ⟨_, rfl, HT.out, HS.out.1.g⟩
end Go.Proofs.Ytomlnflblecpbaa

/-
  Layer 13: the document's Del.
-/
namespace Go.Proofs.Ytomlnflblecpbaa
set_option linter.unusedVariables false
set_option linter.unusedSimpArgs false
open Go.RowKit Go.Proofs.YtomlnflblecpbaaW.PrintWords Go.Proofs.YtomlnflblecpbaaW.PrintMore
attribute [local go_sem] max2_int min2_int
def RPost (W : World) (O : Nat → Prop) (g : Nat) (m : List Pl) (r : Value) (e : Ending) (w' : World) : Prop :=
  e = .returned r ∧ ∃ O', RD w' O' g m ∧ KeepS (fun k => k = g) W w' ∧ ∀ k, O' k → O k ∨ W.heap.size ≤ k
theorem rd_post {W w4 : World} {O : Nat → Prop} {g : Nat} {m m' : List Pl} {v v' : Value} {q B : Nat} (r : Value) (vals : List Value) (h : RDB W O g m v) (hg : Grows W w4) (hB : W.heap.size ≤ B) (hrow : w4.ownsRow B 32 5 v' m'.length (flatP m')) (hq1 : W.heap.size ≤ q) (hq2 : q < B) :
    RPost W O g m' r (.returned r) (World.setCells (w4.setCell ⟨g, 0, none⟩ v') q 0 vals) := by
  have hgl := h.lt
  have hblk := (hg.block g hgl).trans h.blk
  have hb2 := heap_spl g [v'] 0 w4 _ hblk
  have hvb : ∀ k, v'.ownBlock = some k → B ≤ k := own_ge hrow
  refine ⟨rfl, fun k => k = g ∨ v'.ownBlock = some k, ⟨v', ⟨?_, ?_, fun k hk => .inr hk, .inl rfl⟩⟩, ?_, fun k hk => ?_⟩
  · exact (heap_spl_ne q vals 0 _ g (by omega)).trans hb2
  · refine own_move (own_mono hrow (Nat.zero_le _)) fun k hk => ?_
    have := hvb k hk
    exact (heap_spl_ne q vals 0 _ k (by omega)).trans (Below.heap_setCell _ ⟨g, 0, none⟩ _ k (by show k ≠ g; omega))
  · have h1 : KeepS (fun k => k = g ∨ W.heap.size ≤ k) W (World.setCells (w4.setCell ⟨g, 0, none⟩ v') q 0 vals) :=
      ((KeepS.of_grows hg).trans (KeepS.of_grown (grown_set _ g _ _) fun j e => by injection e with e; subst e; exact .inl rfl)).trans (KeepS.of_grown (grown_spl q _ 0 _) fun j e => by injection e with e; subst e; exact .inr hq1)
    exact h1.mono fun k hk h => h.elim id fun h => by omega
  · rcases hk with rfl | hk
    · exact .inl h.og
    · exact .inr (Nat.le_trans hB (hvb k hk))
set_option maxRecDepth 100000 in
set_option maxHeartbeats 4000000 in
theorem rdel_calls {W : World} {O : Nat → Prop} {g : Nat} {m : List Pl} (h : RD W O g m) (key : ByteArray) (hm : m.length ≤ 100000) :
    Calls Try.prog 14 #[.pointer (some ⟨g, 0, none⟩), .string key] W (RPost W O g (delM m key) (.tuple #[.agg ((getM m key).getD zeroPl).cells, .bool (getM m key).isSome])) := by
  obtain ⟨v, h⟩ := h
  have g0 : Grows W (W.alloc (.cells zeroPl.cells 32)) := (Below.refl W.heap.size W).alloc (Nat.le_refl _) _
  have HB := Aside0.mk h
  have HG := Aside0.mk g0
  have HQ := Aside0.mk (PBox.new W zeroPl)
  have HC := Aside0.mk (rget_calls (⟨v, h.grows g0⟩ : RD _ O g m) key (by omega))
  clear h g0
  go_enter Try.func14, Try.ntmps14
  go_upto_region 1 with fail
  change Code.wp _ _ _ _ (W.alloc (.cells zeroPl.cells 32))
  generalize W.alloc (.cells zeroPl.cells 32) = W1 at *
  have HQS := Aside0.mk (lt_heap HQ.out.blk)
  generalize hq : W.heap.size = q at HQ HQS ⊢
  have HE1 := Aside0.mk hq
  clear hq
  obtain ⟨b1, hb1⟩ : ∃ b1, (getM m key).isSome = b1 := ⟨_, rfl⟩
  obtain ⟨p1, hp1⟩ : ∃ p1, (getM m key).getD zeroPl = p1 := ⟨_, rfl⟩
  rw [hb1, hp1] at HC
  have H1 := Aside0.mk hb1
  have H2 := Aside0.mk hp1
  clear hb1 hp1
  obtain ⟨a1, a2, a3, a4, a5⟩ := p1
  dsimp only [Pl.cells] at HC
  go_upto_region 2 with (go_at_call 16; refine HC.out.mono ?_; clear HC; rintro e w2 ⟨rfl, hg⟩; have HG2 := Aside0.mk hg; clear hg)
  change Code.wp _ _ _ _ (w2.alloc (.cells (Pl.cells ⟨a1, a2, a3, a4, a5⟩) 32))
  have g3 : Grows w2 (w2.alloc (.cells (Pl.cells ⟨a1, a2, a3, a4, a5⟩) 32)) := (Below.refl w2.heap.size w2).alloc (Nat.le_refl _) _
  have HG3 := Aside0.mk (show Grows W (w2.alloc (.cells (Pl.cells ⟨a1, a2, a3, a4, a5⟩) 32)) from (HG.out.trans (HG2.out.mono HG.out.size)).trans (g3.mono (Nat.le_trans HG.out.size HG2.out.size)))
  have HQ3 := Aside0.mk ((HQ.out.grows HG2.out).grows g3)
  have HP3 := Aside0.mk (PBox.new w2 ⟨a1, a2, a3, a4, a5⟩)
  have HQ8 := Aside0.mk (show q < w2.heap.size from lt_heap (HQ.out.grows HG2.out).blk)
  clear g3 HQ HG HG2
  generalize w2.alloc (.cells (Pl.cells ⟨a1, a2, a3, a4, a5⟩) 32) = w3 at *
  generalize w2.heap.size = q8 at HP3 HQ8 ⊢
  have HB3 := Aside0.mk (HB.out.grows HG3.out)
  obtain ⟨A, c, ev, hc, hr⟩ := reads_of_own HB3.out.row
  subst ev
  have hcell := HB3.out.c0
  have HD := Aside0.mk (without_calls (c := c) hr key hm)
  have HQ83 := Aside0.mk (show q8 < w3.heap.size from lt_heap HP3.out.blk)
  clear hr
  go_upto_region 3 with (go_at_call 29; refine HD.out.mono ?_; clear HD; rintro e w4 ⟨v4, rfl, ho, hg⟩; obtain ⟨A4, c4, rfl, hc4⟩ := own_slice ho; have HO4 := Aside0.mk ho; have HG4 := Aside0.mk hg; have q1 := (HB3.out.grows hg).c0; have q2 := (HB3.out.grows hg).fr 0; clear ho hg)
  have HQ4 := Aside0.mk ((HQ3.out.grows HG4.out).keep (Below.heap_setCell w4 ⟨g, 0, none⟩ (.slice A4 (delM m key).length c4) q (fun e => by have := HB.out.lt; have := HE1.out; have e2 : q = g := e; omega)))
  have HP4 := Aside0.mk ((HP3.out.grows HG4.out).keep (Below.heap_setCell w4 ⟨g, 0, none⟩ (.slice A4 (delM m key).length c4) q8 (fun e => by have := HB.out.lt; have := HE1.out; have := HQ8.out; have e2 : q8 = g := e; omega)))
  have HFIN := Aside0.mk (rd_post (m' := delM m key) (q := q) (.tuple #[.agg ((getM m key).getD zeroPl).cells, .bool (getM m key).isSome]) (Pl.vals ⟨a1, a2, a3, a4, a5⟩) HB.out (HG3.out.trans (HG4.out.mono HG3.out.size)) HG3.out.size HO4.out (by rw [HE1.out]; exact Nat.le_refl _) (by have := HQ8.out; have := HQ83.out; omega))
  rw [H1.out, H2.out] at HFIN
  have e0 := HP4.out.c0; have e1 := HP4.out.c1; have e2 := HP4.out.c2; have e3 := HP4.out.c3; have e4 := HP4.out.c4
  dsimp only at e0 e1 e2 e3 e4
  have d0 := HQ4.out.c0; have d1 := HQ4.out.c1; have d2 := HQ4.out.c2; have d3 := HQ4.out.c3; have d4 := HQ4.out.c4
  have f0 := HQ4.out.fr 0; have f1' := HQ4.out.fr 1; have f2 := HQ4.out.fr 2; have f3 := HQ4.out.fr 3; have f4 := HQ4.out.fr 4
  clear q1 q2 hcell
  go_wp2
  exact bodyPost_ret (results_box_tmp (fn := Try.f14) (p := 4) (u := 5) rfl _ _ q (⟨a1, a2, a3, a4, a5⟩ : Pl) rfl (HQ4.out.set (⟨a1, a2, a3, a4, a5⟩ : Pl))) rfl (by rw [H1.out, H2.out]; exact HFIN.out)
end Go.Proofs.Ytomlnflblecpbaa
