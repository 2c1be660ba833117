/-
  A cutter's state, and its small functions.
-/
import Derived.Test.YtoaokmlpeijepaaLib
namespace Go.Proofs.Ytoaokmlpeijepaa
set_option linter.unusedVariables false
set_option linter.unusedSimpArgs false
open Go.RowKit Go.Proofs.YtoaokmlpeijepaaW.PrintWords

/-- Bytes that lie in a row of bytes. -/
def Left (W : World) (A : Option Addr) (L : List Int) : Prop :=
  L = [] ∨ ∃ b off cs, A = some ⟨b, off, none⟩ ∧ W.heap[b]? = some (.cells cs 5 (0, 0)) ∧ ∀ j, j < L.length → cs[off + j]? = some (.int .u8 (L.getD j 0))
theorem Left.reads {W : World} {A : Option Addr} {L : List Int} (h : Left W A L) (hm : L.length ≤ 9223372036854775807) : ReadsInt W .u8 A L.length L := by
  refine ⟨rfl, hm, fun hn => ?_⟩
  rcases h with rfl | ⟨b, off, cs, rfl, hb, hc⟩
  · cases hn
  · refine ⟨_, rfl, fun j hj => ?_⟩
    have hadd : (⟨b, off, none⟩ : Addr).add j = ⟨b, off + j, none⟩ := by unfold Addr.add; split <;> simp_all
    rw [hadd, cell_of_row W b _ cs 5 (0, 0) hb]
    exact hc j hj
/-- What is told of rows of bytes abides whatever leaves these alone. -/
theorem Left.step {W W' : World} {A : Option Addr} {L : List Int} (h : Left W A L) (hk : ∀ (b : Nat) (cs : Array Value), W.heap[b]? = some (Obj.cells cs 5 (0, 0)) → W'.heap[b]? = some (Obj.cells cs 5 (0, 0))) : Left W' A L := by
  rcases h with rfl | ⟨b, off, cs, rfl, hb, hc⟩
  · exact .inl rfl
  · exact .inr ⟨b, off, cs, rfl, hk b cs hb, hc⟩
theorem Left.take {W : World} {A : Option Addr} {L : List Int} (h : Left W A L) (n : Nat) : Left W A (L.take n) := by
  rcases h with rfl | ⟨b, off, cs, rfl, hb, hc⟩
  · exact .inl (by simp)
  · refine .inr ⟨b, off, cs, rfl, hb, fun j hj => ?_⟩
    rw [List.length_take] at hj
    rw [hc j (by omega), List.getD_eq_getElem?_getD, List.getD_eq_getElem?_getD, List.getElem?_take, if_pos (by omega)]
theorem Left.drop {W : World} {A : Option Addr} {L : List Int} (h : Left W A L) (n c : Nat) (hn : n ≤ L.length) (hc : L.length ≤ c) : Left W (if c = n then A else A.map (·.add n)) (L.drop n) := by
  by_cases e : c = n
  · exact .inl (by rw [List.drop_eq_nil_iff]; omega)
  · rw [if_neg e]
    rcases h with rfl | ⟨b, off, cs, rfl, hb, hcs⟩
    · exact .inl (by simp)
    · have hadd : (⟨b, off, none⟩ : Addr).add n = ⟨b, off + n, none⟩ := by unfold Addr.add; split <;> simp_all
      refine .inr ⟨b, off + n, cs, by simp [hadd], hb, fun j hj => ?_⟩
      rw [List.length_drop] at hj
      rw [show off + n + j = off + (n + j) by omega, hcs (n + j) (by omega), List.getD_eq_getElem?_getD, List.getD_eq_getElem?_getD, List.getElem?_drop]
theorem Left.of_own {W : World} {B n c : Nat} {A : Option Addr} {L : List Int} (h : W.ownsRow B 5 1 (.slice A n c) L.length (nums .u8 L)) : n = L.length ∧ Left W A L := by
  rcases h.2 with ⟨e, h0⟩ | ⟨g, cap, cur, e, h1, h2, h3, h4, h5, h6⟩
  · injection e with e1 e2 e3
    exact ⟨by omega, .inl (List.eq_nil_of_length_eq_zero h0)⟩
  · injection e with e1 e2 e3
    subst e1
    refine ⟨e2, .inr ⟨g, 0, cur, rfl, h2, fun j hj => ?_⟩⟩
    rw [Nat.mul_one] at h6
    have : (cur.toList.take L.length)[j]? = (nums .u8 L)[j]? := by rw [h6]
    rw [List.getElem?_take, if_pos hj, Array.getElem?_toList] at this
    rw [Nat.zero_add, this]
    simp [nums, List.getD_eq_getElem?_getD, List.getElem?_eq_getElem hj]
/-- A cutter: its block, and what is left. -/
structure CutAt (W : World) (g : Nat) (each all : Int) (A : Option Addr) (c : Nat) (L : List Int) : Prop where
  blk : W.heap[g]? = some (.cells #[.int .i64 each, .int .i64 all, .slice A L.length c] 45 (0, 0))
  le : L.length ≤ c
  left : Left W A L
theorem CutAt.lt {W : World} {g : Nat} {each all : Int} {A : Option Addr} {c : Nat} {L : List Int} (h : CutAt W g each all A c L) : g < W.heap.size := (Array.getElem?_eq_some_iff.1 h.blk).1
theorem CutAt.step {W W' : World} {g : Nat} {each all : Int} {A : Option Addr} {c : Nat} {L : List Int} (h : CutAt W g each all A c L) (hg : W'.heap[g]? = W.heap[g]?) (hk : ∀ (b : Nat) (cs : Array Value), W.heap[b]? = some (Obj.cells cs 5 (0, 0)) → W'.heap[b]? = some (Obj.cells cs 5 (0, 0))) : CutAt W' g each all A c L :=
  ⟨hg.trans h.blk, h.le, h.left.step hk⟩
theorem lt_heap {W : World} {k : Nat} {o : Obj} (h : W.heap[k]? = some o) : k < W.heap.size := (Array.getElem?_eq_some_iff.1 h).1
theorem CutAt.below {W W' : World} {g : Nat} {each all : Int} {A : Option Addr} {c : Nat} {L : List Int} (h : CutAt W g each all A c L) (hb : Below W.heap.size W W') : CutAt W' g each all A c L :=
  h.step (hb.block g h.lt) (fun b cs e => (hb.block b (lt_heap e)).trans e)
theorem CutAt.c0 {W : World} {g : Nat} {each all : Int} {A : Option Addr} {c : Nat} {L : List Int} (h : CutAt W g each all A c L) : W.cell? ⟨g, 0, none⟩ = some (.int .i64 each) := cell_of_row W g 0 _ 45 (0, 0) h.blk
theorem CutAt.c1 {W : World} {g : Nat} {each all : Int} {A : Option Addr} {c : Nat} {L : List Int} (h : CutAt W g each all A c L) : W.cell? ⟨g, 1, none⟩ = some (.int .i64 all) := cell_of_row W g 1 _ 45 (0, 0) h.blk
theorem CutAt.c2 {W : World} {g : Nat} {each all : Int} {A : Option Addr} {c : Nat} {L : List Int} (h : CutAt W g each all A c L) : W.cell? ⟨g, 2, none⟩ = some (.slice A L.length c) := cell_of_row W g 2 _ 45 (0, 0) h.blk
theorem CutAt.fr {W : World} {g : Nat} {each all : Int} {A : Option Addr} {c : Nat} {L : List Int} (h : CutAt W g each all A c L) (j : Nat) : W.frozen? ⟨g, j, none⟩ = false := by simp [World.frozen?, h.blk]
theorem grown_set (W : World) (g i : Nat) (u : Value) : W.grownBy (W.setCell ⟨g, i, none⟩ u) (some g) :=
  ⟨rfl, rfl, rfl, by rw [World.size_setCell]; exact Nat.le_refl _, fun k hk hne => Below.heap_setCell W ⟨g, i, none⟩ u k (fun e => hne (by rw [e]))⟩
theorem CutAt.setAll {W : World} {g : Nat} {each all : Int} {A : Option Addr} {c : Nat} {L : List Int} (h : CutAt W g each all A c L) (all' : Int) : CutAt (W.setCell ⟨g, 1, none⟩ (.int .i64 all')) g each all' A c L := by
  refine ⟨blk_set h.blk 1 _, h.le, h.left.step fun b cs e => (Below.heap_setCell W _ _ b (fun e2 => ?_)).trans e⟩
  have e2' : b = g := e2
  subst e2'
  rw [h.blk] at e
  injection e with e
  injection e with _ e3
  exact absurd e3 (by decide)
theorem CutAt.setLeft {W : World} {g : Nat} {each all : Int} {A A' : Option Addr} {c c' : Nat} {L L' : List Int} (h : CutAt W g each all A c L) (h' : Left W A' L') (hle : L'.length ≤ c') : CutAt (W.setCell ⟨g, 2, none⟩ (.slice A' L'.length c')) g each all A' c' L' := by
  refine ⟨blk_set h.blk 2 _, hle, h'.step fun b cs e => (Below.heap_setCell W _ _ b (fun e2 => ?_)).trans e⟩
  have e2' : b = g := e2
  subst e2'
  rw [h.blk] at e
  injection e with e
  injection e with _ e3
  exact absurd e3 (by decide)

set_option maxRecDepth 100000 in
theorem new_calls (n : Int) (w : World) (h0 : 1 ≤ n) (h1 : n ≤ 4096) :
    Calls Try.prog 10 #[.int .i64 n] w fun e w' => ∃ g, e = .returned (.pointer (some ⟨g, 0, none⟩)) ∧ g = w.heap.size ∧ CutAt w' g n 0 none 0 [] ∧ Below w.heap.size w w' := by
  have d1 : ¬ n < 1 := by omega
  have d2 : ¬ 4096 < n := by omega
  go_enter Try.func10, Try.ntmps10
  go_wp2
  go_ret
  exact ⟨_, rfl, rfl, ⟨heap_alloc_new w _, Nat.le_refl _, .inl rfl⟩, below_alloc (Below.refl _ _) _⟩
theorem new_none (n : Int) (w : World) (h : n < 1 ∨ 4096 < n) : Calls Try.prog 10 #[.int .i64 n] w fun e w' => e = .returned (.pointer none) ∧ w' = w := by
  go_enter Try.func10, Try.ntmps10
  by_cases d1 : n < 1
  · go_wp2
    go_ret
    exact ⟨rfl, rfl⟩
  · have d2 : 4096 < n := by omega
    go_wp2
    go_ret
    exact ⟨rfl, rfl⟩
theorem size_calls (g : Nat) (each all : Int) (A : Option Addr) (c : Nat) (L : List Int) (w : World) (h : CutAt w g each all A c L) :
    Calls Try.prog 17 #[.pointer (some ⟨g, 0, none⟩)] w fun e w' => e = .returned (.int .i64 all) ∧ w' = w := by
  have h1 := h.c1
  have H := Aside0.mk h
  clear h
  go_enter Try.func17, Try.ntmps17
  go_wp2
  go_ret
  exact ⟨rfl, rfl⟩
theorem left_calls (g : Nat) (each all : Int) (A : Option Addr) (c : Nat) (L : List Int) (w : World) (h : CutAt w g each all A c L) :
    Calls Try.prog 19 #[.pointer (some ⟨g, 0, none⟩)] w fun e w' => e = .returned (.int .i64 (L.length : Int)) ∧ w' = w := by
  have h1 := h.c2
  have H := Aside0.mk h
  clear h
  go_enter Try.func19, Try.ntmps19
  go_wp2
  go_ret
  exact ⟨rfl, rfl⟩
theorem rest_calls (g : Nat) (each all : Int) (A : Option Addr) (c : Nat) (L : List Int) (w : World) (h : CutAt w g each all A c L) :
    Calls Try.prog 12 #[.pointer (some ⟨g, 0, none⟩)] w fun e w' => e = .returned (.slice A L.length c) ∧ CutAt w' g each all none 0 [] ∧ w.grownBy w' (some g) ∧ Left w' A L := by
  have h1 := h.c2
  have h2 := h.fr 2
  have H := Aside0.mk h
  clear h
  go_enter Try.func12, Try.ntmps12
  go_wp2
  go_ret
  refine ⟨rfl, H.out.setLeft (L' := []) (.inl rfl) (Nat.le_refl _), grown_set _ _ _ _, H.out.left.step fun b cs e => (Below.heap_setCell w _ _ b (fun e2 => ?_)).trans e⟩
  have e2' : b = g := e2
  subst e2'
  rw [H.out.blk] at e
  injection e with e
  injection e with _ e3
  exact absurd e3 (by decide)
end Go.Proofs.Ytoaokmlpeijepaa
