/-
  Layer 6: the document's cutter.
-/
import Derived.Test.YtoaokmlpeijepaaAllHeld
namespace Go.Proofs.Ytoaokmlpeijepaa
set_option linter.unusedVariables false
set_option linter.unusedSimpArgs false
open Go.RowKit Go.Proofs.YtoaokmlpeijepaaW.PrintWords

def RCut (W : World) (g : Nat) (each all : Int) (L : List Int) : Prop := W.heap[g]? = some (.cells #[.int .i64 each, .int .i64 all, .string (strOfNums L)] 47 (0, 0))
theorem RCut.lt {W : World} {g : Nat} {each all : Int} {L : List Int} (h : RCut W g each all L) : g < W.heap.size := lt_heap h
theorem RCut.grows {W W' : World} {g : Nat} {each all : Int} {L : List Int} (h : RCut W g each all L) (hg : Grows W W') : RCut W' g each all L := (hg.block g h.lt).trans h
theorem RCut.keep {W W' : World} {S : Nat → Prop} {g : Nat} {each all : Int} {L : List Int} (h : RCut W g each all L) (hg : KeepS S W W') (hn : ¬ S g) : RCut W' g each all L := (hg.block g h.lt hn).trans h
theorem RCut.c0 {W : World} {g : Nat} {each all : Int} {L : List Int} (h : RCut W g each all L) : W.cell? ⟨g, 0, none⟩ = some (.int .i64 each) := cell_of_row W g 0 _ 47 (0, 0) h
theorem RCut.c1 {W : World} {g : Nat} {each all : Int} {L : List Int} (h : RCut W g each all L) : W.cell? ⟨g, 1, none⟩ = some (.int .i64 all) := cell_of_row W g 1 _ 47 (0, 0) h
theorem RCut.c2 {W : World} {g : Nat} {each all : Int} {L : List Int} (h : RCut W g each all L) : W.cell? ⟨g, 2, none⟩ = some (.string (strOfNums L)) := cell_of_row W g 2 _ 47 (0, 0) h
theorem RCut.fr {W : World} {g : Nat} {each all : Int} {L : List Int} (h : RCut W g each all L) (j : Nat) : W.frozen? ⟨g, j, none⟩ = false := frozen_of_row W g j _ 47 h
theorem RCut.set1 {W : World} {g : Nat} {each all : Int} {L : List Int} (h : RCut W g each all L) (a : Int) : RCut (W.setCell ⟨g, 1, none⟩ (.int .i64 a)) g each a L := blk_set h 1 _
theorem RCut.set2 {W : World} {g : Nat} {each all : Int} {L : List Int} (h : RCut W g each all L) (M : List Int) : RCut (W.setCell ⟨g, 2, none⟩ (.string (strOfNums M))) g each all M := blk_set h 2 _
set_option maxRecDepth 100000 in
theorem rnew_calls (n : Int) (w : World) (h0 : 1 ≤ n) (h1 : n ≤ 4096) :
    Calls Try.prog 11 #[.int .i64 n] w fun e w' => ∃ g, e = .returned (.pointer (some ⟨g, 0, none⟩)) ∧ g = w.heap.size ∧ RCut w' g n 0 [] ∧ Below w.heap.size w w' := by
  have d1 : ¬ n < 1 := by omega
  have d2 : ¬ 4096 < n := by omega
  go_enter Try.func11, Try.ntmps11
  go_wp2
  go_ret
  exact ⟨_, rfl, rfl, heap_alloc_new w _, below_alloc (Below.refl _ _) _⟩
theorem rnew_none (n : Int) (w : World) (h : n < 1 ∨ 4096 < n) : Calls Try.prog 11 #[.int .i64 n] w fun e w' => e = .returned (.pointer none) ∧ w' = w := by
  go_enter Try.func11, Try.ntmps11
  by_cases d1 : n < 1
  · go_wp2
    go_ret
    exact ⟨rfl, rfl⟩
  · have d2 : 4096 < n := by omega
    go_wp2
    go_ret
    exact ⟨rfl, rfl⟩
theorem rsize_calls (g : Nat) (each all : Int) (L : List Int) (w : World) (h : RCut w g each all L) :
    Calls Try.prog 18 #[.pointer (some ⟨g, 0, none⟩)] w fun e w' => e = .returned (.int .i64 all) ∧ w' = w := by
  have h1 := h.c1
  clear h
  go_enter Try.func18, Try.ntmps18
  go_wp2
  go_ret
  exact ⟨rfl, rfl⟩
theorem rleft_calls (g : Nat) (each all : Int) (L : List Int) (w : World) (h : RCut w g each all L) :
    Calls Try.prog 20 #[.pointer (some ⟨g, 0, none⟩)] w fun e w' => e = .returned (.int .i64 (L.length : Int)) ∧ w' = w := by
  have h1 := h.c2
  have h2 := str_size L
  clear h
  go_enter Try.func20, Try.ntmps20
  go_wp2
  go_ret
  exact ⟨rfl, rfl⟩
/-- Bytes that a conversion made: their row bears a mark. -/
def Row5 (W : World) (B : Nat) (x : Nat × Nat) (ch : List Int) : Prop := B ≤ x.1 ∧ ch.length ≤ x.2 ∧ ∃ cs fr, W.heap[x.1]? = some (.cells cs 5 fr) ∧ ∀ j, j < ch.length → cs[j]? = some (.int .u8 (ch.getD j 0))
def u8s (xs : List Int) : Prop := ∀ x ∈ xs, 0 ≤ x ∧ x < 256
theorem conv_bytes (w : World) (xs : List Int) (hx : u8s xs) : ∃ c w1, (convert 9 29 (.string (strOfNums xs))).run Try.prog w = .ok (.slice (some ⟨w.heap.size, 0, none⟩) xs.length c) w1 ∧ Row5 w1 w.heap.size (w.heap.size, c) xs ∧ Grows w w1 := by
  refine ⟨grownCap w (strOfNums xs).size 0 5, Lib.bytesWorld w 5 (strOfNums xs), ?_, ⟨Nat.le_refl _, by rw [← str_size xs]; exact grownCap_ge _ _ _ _, _, _, Lib.bytesWorld_at_new w 5 _, fun j hj => ?_⟩, ⟨rfl, rfl, rfl, by rw [Lib.bytesWorld_size]; omega, fun k hk => Lib.bytesWorld_at_old w 5 _ k hk⟩⟩
  · have := Lib.run_convert_string_bytes (P := Try.prog) w 9 29 5 (strOfNums xs) Try.underlying9 Try.underlying29 Try.underlying5
    rw [str_size] at this ⊢
    exact this
  · unfold Lib.bytesCells
    rw [Array.getElem?_append_left (by simp [strOfNums]; exact hj)]
    simp only [strOfNums, Array.getElem?_map, List.getElem?_toArray, List.getElem?_map, List.getElem?_eq_getElem hj, Option.map_some, List.getD_eq_getElem?_getD, Option.getD_some]
    have := hx _ (List.getElem_mem hj)
    congr 2
    simp only [UInt8.toNat_ofNat']
    omega
set_option maxRecDepth 100000 in
theorem rrest_calls (g : Nat) (each all : Int) (L : List Int) (w : World) (h : RCut w g each all L) (hL : u8s L) :
    Calls Try.prog 13 #[.pointer (some ⟨g, 0, none⟩)] w fun e w' => ∃ b c, e = .returned (.slice (some ⟨b, 0, none⟩) L.length c) ∧ Row5 w' w.heap.size (b, c) L ∧ RCut w' g each all [] ∧ w.grownBy w' (some g) := by
  have h1 := h.c2
  have H := Aside0.mk h
  obtain ⟨c, w1, hr, hrow, hg⟩ := conv_bytes w L hL
  have HROW := Aside0.mk hrow
  have HG := Aside0.mk hg
  have hf := (h.grows hg).fr 2
  have hc2 := (h.grows hg).c2
  clear h hrow hg
  go_enter Try.func13, Try.ntmps13
  go_wp2
  go_ret
  have hlt := H.out.lt
  have hne : w.heap.size ≠ g := by omega
  refine ⟨w.heap.size, c, rfl, ⟨HROW.out.1, HROW.out.2.1, ?_⟩, (H.out.grows HG.out).set2 [], ?_⟩
  · obtain ⟨cs, fr, hcs, hj⟩ := HROW.out.2.2
    exact ⟨cs, fr, set_other w1 g 2 _ hcs hne, hj⟩
  · exact grown_trans (grown_of_below HG.out (some g)) (grown_set w1 g 2 _)
end Go.Proofs.Ytoaokmlpeijepaa
