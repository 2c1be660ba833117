/-
  Layer 4: what a kind has of a record.
-/
import Derived.Test.YtemnhgmgffdncaaRootTo
namespace Go.Proofs.Ytemnhgmgffdncaa
set_option linter.unusedVariables false
set_option linter.unusedSimpArgs false
open Go.RowKit Go.Proofs.YtemnhgmgffdncaaW.PrintWords Go.Proofs.YtemnhgmgffdncaaW.PrintMore
attribute [local go_sem] max2_int

def recV (kind : Int) (key : ByteArray) (id no size : Int) (vL vB : Value) : Value := .agg (recCells kind key id no size vL vB)
/-- All cells set, one after the other. -/
def setAll (W : World) (q : Nat) (kind : Int) (key : ByteArray) (id no size : Int) (vL vB : Value) : World :=
  ((((((W.setCell ⟨q, 0, none⟩ (.int .i64 kind)).setCell ⟨q, 1, none⟩ (.string key)).setCell ⟨q, 2, none⟩ (.int .i64 id)).setCell ⟨q, 3, none⟩ (.int .i64 no)).setCell ⟨q, 4, none⟩ (.int .i64 size)).setCell ⟨q, 5, none⟩ vL).setCell ⟨q, 6, none⟩ vB
theorem setAll_grown (W : World) (q : Nat) (kind : Int) (key : ByteArray) (id no size : Int) (vL vB : Value) : W.grownBy (setAll W q kind key id no size vL vB) (some q) :=
  grown_trans (grown_trans (grown_trans (grown_trans (grown_trans (grown_trans (grown_set _ _ _ _) (grown_set _ _ _ _)) (grown_set _ _ _ _)) (grown_set _ _ _ _)) (grown_set _ _ _ _)) (grown_set _ _ _ _)) (grown_set _ _ _ _)
/-- Cells of a record, in a block of any such type. -/
def RecT (t : TypeId) (W : World) (g : Nat) (kind : Int) (key : ByteArray) (id no size : Int) (vL vB : Value) : Prop := W.heap[g]? = some (.cells (recCells kind key id no size vL vB) t (0, 0))
section
variable {t : TypeId} {W W' : World} {g : Nat} {kind id no size : Int} {key : ByteArray} {vL vB : Value}
theorem RecT.blk (h : RecT t W g kind key id no size vL vB) : W.heap[g]? = some (.cells (recCells kind key id no size vL vB) t (0, 0)) := h
theorem RecT.lt (h : RecT t W g kind key id no size vL vB) : g < W.heap.size := lt_heap h
theorem RecT.grows (h : RecT t W g kind key id no size vL vB) (hg : Grows W W') : RecT t W' g kind key id no size vL vB := (hg.block g h.lt).trans h
theorem RecT.c0 (h : RecT t W g kind key id no size vL vB) : W.cell? ⟨g, 0, none⟩ = some (.int .i64 kind) := cell_of_row W g 0 _ t (0, 0) h
theorem RecT.c1 (h : RecT t W g kind key id no size vL vB) : W.cell? ⟨g, 1, none⟩ = some (.string key) := cell_of_row W g 1 _ t (0, 0) h
theorem RecT.c2 (h : RecT t W g kind key id no size vL vB) : W.cell? ⟨g, 2, none⟩ = some (.int .i64 id) := cell_of_row W g 2 _ t (0, 0) h
theorem RecT.c3 (h : RecT t W g kind key id no size vL vB) : W.cell? ⟨g, 3, none⟩ = some (.int .i64 no) := cell_of_row W g 3 _ t (0, 0) h
theorem RecT.c4 (h : RecT t W g kind key id no size vL vB) : W.cell? ⟨g, 4, none⟩ = some (.int .i64 size) := cell_of_row W g 4 _ t (0, 0) h
theorem RecT.c5 (h : RecT t W g kind key id no size vL vB) : W.cell? ⟨g, 5, none⟩ = some vL := cell_of_row W g 5 _ t (0, 0) h
theorem RecT.c6 (h : RecT t W g kind key id no size vL vB) : W.cell? ⟨g, 6, none⟩ = some vB := cell_of_row W g 6 _ t (0, 0) h
theorem RecT.fr (h : RecT t W g kind key id no size vL vB) (j : Nat) : W.frozen? ⟨g, j, none⟩ = false := frozen_of_row W g j _ t h
theorem RecT.set0 (h : RecT t W g kind key id no size vL vB) (x : Int) : RecT t (W.setCell ⟨g, 0, none⟩ (.int .i64 x)) g x key id no size vL vB := blk_set h 0 _
theorem RecT.set1 (h : RecT t W g kind key id no size vL vB) (x : ByteArray) : RecT t (W.setCell ⟨g, 1, none⟩ (.string x)) g kind x id no size vL vB := blk_set h 1 _
theorem RecT.set2 (h : RecT t W g kind key id no size vL vB) (x : Int) : RecT t (W.setCell ⟨g, 2, none⟩ (.int .i64 x)) g kind key x no size vL vB := blk_set h 2 _
theorem RecT.set3 (h : RecT t W g kind key id no size vL vB) (x : Int) : RecT t (W.setCell ⟨g, 3, none⟩ (.int .i64 x)) g kind key id x size vL vB := blk_set h 3 _
theorem RecT.set4 (h : RecT t W g kind key id no size vL vB) (x : Int) : RecT t (W.setCell ⟨g, 4, none⟩ (.int .i64 x)) g kind key id no x vL vB := blk_set h 4 _
theorem RecT.set5 (h : RecT t W g kind key id no size vL vB) (x : Value) : RecT t (W.setCell ⟨g, 5, none⟩ x) g kind key id no size x vB := blk_set h 5 _
theorem RecT.set6 (h : RecT t W g kind key id no size vL vB) (x : Value) : RecT t (W.setCell ⟨g, 6, none⟩ x) g kind key id no size vL x := blk_set h 6 _
end
theorem setAll_rec {t : TypeId} {W : World} {q : Nat} {a : Int} {b : ByteArray} {c d e : Int} {vl vb : Value} (h : RecT t W q a b c d e vl vb) (kind : Int) (key : ByteArray) (id no size : Int) (vL vB : Value) : RecT t (setAll W q kind key id no size vL vB) q kind key id no size vL vB :=
  ((((((h.set0 kind).set1 key).set2 id).set3 no).set4 size).set5 vL).set6 vB
theorem pw_below_keep {W W1 W2 : World} {S : Nat → Prop} (h : Grows W W1) (hk : KeepS S W1 W2) (hS : ∀ k, S k → W.heap.size ≤ k) : Grows W W2 :=
  ⟨hk.os.trans h.os, hk.tape.trans h.tape, hk.output.trans h.output, Nat.le_trans h.size hk.size, fun k hlt => (hk.block k (Nat.lt_of_lt_of_le hlt h.size) (fun e => by have := hS k e; omega)).trans (h.block k hlt)⟩
set_option maxRecDepth 100000 in
set_option maxHeartbeats 4000000 in
theorem tombHas_calls (g : Nat) (kind : Int) (key : ByteArray) (id no size : Int) (LA : Option Addr) (ln lc : Nat) (A : Option Addr) (m c : Nat) (w : World) (hr : RecIs w g kind key id no size (.slice LA ln lc) (.slice A m c)) :
    Calls Try.prog 39 #[.pointer (some ⟨g, 0, none⟩)] w fun e w' => e = .returned (recV 0 key 0 0 0 (.slice none 0 0) (.slice none 0 0)) ∧ Grows w w' := by
  have HR := Aside0.mk hr
  clear hr
  go_enter Try.func39, Try.ntmps39
  go_upto_region 1 with fail
  have HG1 := Aside0.mk (show Grows w _ from (Below.refl w.heap.size w).alloc (Nat.le_refl _) (.cells #[.int .i64 0, .string (⟨#[]⟩ : ByteArray), .int .i64 0, .int .i64 0, .int .i64 0, .slice none 0 0, .slice none 0 0] 49))
  have HQ1 := Aside0.mk (show RecT 49 _ _ 0 (⟨#[]⟩ : ByteArray) 0 0 0 (.slice none 0 0) (.slice none 0 0) from heap_alloc_new w (.cells #[.int .i64 0, .string (⟨#[]⟩ : ByteArray), .int .i64 0, .int .i64 0, .int .i64 0, .slice none 0 0, .slice none 0 0] 49))
  have HLT := Aside0.mk HR.out.lt
  generalize w.alloc (.cells #[.int .i64 0, .string (⟨#[]⟩ : ByteArray), .int .i64 0, .int .i64 0, .int .i64 0, .slice none 0 0, .slice none 0 0] 49) = w1 at HG1 HQ1 ⊢
  have HR1 := Aside0.mk (HR.out.grows HG1.out)
  have HQS := Aside0.mk (Nat.le_refl w.heap.size)
  generalize hq : w.heap.size = q at HQ1 HLT ⊢
  have HQ := Aside0.mk hq
  clear hq HQS
  have c1 := HR1.out.c1
  have f0 := HQ1.out.fr 0; have f1 := HQ1.out.fr 1; have f2 := HQ1.out.fr 2; have f3 := HQ1.out.fr 3; have f4 := HQ1.out.fr 4; have f5 := HQ1.out.fr 5; have f6 := HQ1.out.fr 6; have d0 := HQ1.out.c0; have d1 := HQ1.out.c1; have d2 := HQ1.out.c2; have d3 := HQ1.out.c3; have d4 := HQ1.out.c4; have d5 := HQ1.out.c5; have d6 := HQ1.out.c6
  go_wp2
  have HQ2 := Aside0.mk (setAll_rec HQ1.out 0 key 0 0 0 (.slice none 0 0) (.slice none 0 0))
  have HG2 := Aside0.mk (setAll_grown w1 q 0 key 0 0 0 (.slice none 0 0) (.slice none 0 0))
  exact bodyPost_ret (results_cell_row rfl _ _ q 49 _ (0, 0) _ rfl HQ2.out Try.underlying49 rfl (by kernel_rfl)) rfl ⟨rfl, pw_below_grown HG1.out (some q) HG1.out.size HG2.out (fun k e => by injection e with e; rw [← e, HQ.out]; exact Nat.le_refl _)⟩
set_option maxRecDepth 100000 in
set_option maxHeartbeats 4000000 in
theorem inlineHas_calls (g : Nat) (kind : Int) (key : ByteArray) (id no size : Int) (LA : Option Addr) (ln lc : Nat) (A : Option Addr) (m c : Nat) (w : World) (hr : RecIs w g kind key id no size (.slice LA ln lc) (.slice A m c)) :
    Calls Try.prog 35 #[.pointer (some ⟨g, 0, none⟩)] w fun e w' => e = .returned (recV 0 key 0 0 0 (.slice none 0 0) (.slice A m c)) ∧ Grows w w' := by
  have HR := Aside0.mk hr
  clear hr
  go_enter Try.func35, Try.ntmps35
  go_upto_region 1 with fail
  have HG1 := Aside0.mk (show Grows w _ from (Below.refl w.heap.size w).alloc (Nat.le_refl _) (.cells #[.int .i64 0, .string (⟨#[]⟩ : ByteArray), .int .i64 0, .int .i64 0, .int .i64 0, .slice none 0 0, .slice none 0 0] 49))
  have HQ1 := Aside0.mk (show RecT 49 _ _ 0 (⟨#[]⟩ : ByteArray) 0 0 0 (.slice none 0 0) (.slice none 0 0) from heap_alloc_new w (.cells #[.int .i64 0, .string (⟨#[]⟩ : ByteArray), .int .i64 0, .int .i64 0, .int .i64 0, .slice none 0 0, .slice none 0 0] 49))
  have HLT := Aside0.mk HR.out.lt
  generalize w.alloc (.cells #[.int .i64 0, .string (⟨#[]⟩ : ByteArray), .int .i64 0, .int .i64 0, .int .i64 0, .slice none 0 0, .slice none 0 0] 49) = w1 at HG1 HQ1 ⊢
  have HR1 := Aside0.mk (HR.out.grows HG1.out)
  have HQS := Aside0.mk (Nat.le_refl w.heap.size)
  generalize hq : w.heap.size = q at HQ1 HLT ⊢
  have HQ := Aside0.mk hq
  clear hq HQS
  have HNQ := Aside0.mk (show ¬ g = q by have := HLT.out; omega)
  apply wp_region_phase Grows (KeepS (fun k => k = q)) (phaseK _) (fun w' => RecT 49 w' q 0 (⟨#[]⟩ : ByteArray) 0 0 0 (.slice none 0 0) (.slice none 0 0)) HQ1.out (fun a c h hh => hh.grows h) (hm := by kernel_rfl) (hB := by kernel_rfl)
  case h =>
    iterate 3
      apply phase_fixed
      case hw => simp [Region.wanted, yielded]
      case ho =>
        intro w' hk hf
        clear hf
        refine ⟨?_⟩
        go_simp
        exact ⟨Grows.refl _, rfl⟩
      simp only [Act.put, List.setIfInBounds_toArray, List.set_cons_zero, List.set_cons_succ]
    apply phase_fixed (c := .string key)
    case hw => simp [Region.wanted, yielded]
    case ho =>
      intro w' hk hf
      clear hf
      have kk : RecIs w' g kind key id no size (.slice LA ln lc) (.slice A m c) := (hk.block g HR1.out.lt HNQ.out).trans HR1.out
      have kc := kk.c1
      clear kk
      refine ⟨?_⟩
      go_simp
      exact ⟨Grows.refl _, rfl⟩
    simp only [Act.put, List.setIfInBounds_toArray, List.set_cons_zero, List.set_cons_succ]
    iterate 3
      apply phase_fixed
      case hw => simp [Region.wanted, yielded]
      case ho =>
        intro w' hk hf
        clear hf
        refine ⟨?_⟩
        go_simp
        exact ⟨Grows.refl _, rfl⟩
      simp only [Act.put, List.setIfInBounds_toArray, List.set_cons_zero, List.set_cons_succ]
    apply phase_fixed (c := .slice A m c)
    case hw => simp [Region.wanted, yielded]
    case ho =>
      intro w' hk hf
      clear hf
      have kk : RecIs w' g kind key id no size (.slice LA ln lc) (.slice A m c) := (hk.block g HR1.out.lt HNQ.out).trans HR1.out
      have kc := kk.c6
      clear kk
      refine ⟨?_⟩
      go_simp
      exact ⟨Grows.refl _, rfl⟩
    simp only [Act.put, List.setIfInBounds_toArray, List.set_cons_zero, List.set_cons_succ]
    apply phase_fixed (c := recV 0 key 0 0 0 (.slice none 0 0) (.slice A m c))
    case hw => simp [Region.wanted, yielded]
    case ho =>
      intro w' hk hf
      clear hf
      refine ⟨?_⟩
      go_simp
      exact ⟨Grows.refl _, rfl⟩
    simp only [Act.put, List.setIfInBounds_toArray, List.set_cons_zero, List.set_cons_succ]
    apply phase_turn (c := undef) (J := fun w' => RecT 49 w' q 0 key 0 0 0 (.slice none 0 0) (.slice A m c))
    case hw => simp [Region.wanted, yielded]
    case ho =>
      intro w' hk hf hI
      clear hf
      have f0 := hI.fr 0
      have f1 := hI.fr 1
      have f2 := hI.fr 2
      have f3 := hI.fr 3
      have f4 := hI.fr 4
      have f5 := hI.fr 5
      have f6 := hI.fr 6
      have d0 := hI.c0
      have d1 := hI.c1
      have d2 := hI.c2
      have d3 := hI.c3
      have d4 := hI.c4
      have d5 := hI.c5
      have d6 := hI.c6
      have HI := Aside0.mk hI
      clear hI
      refine ⟨?_⟩
      unfold recV recCells
      go_simp
      exact ⟨KeepS.of_grown (setAll_grown w' q 0 key 0 0 0 (.slice none 0 0) (.slice A m c)) (fun k e => by injection e with e; exact e.symm), setAll_rec HI.out 0 key 0 0 0 (.slice none 0 0) (.slice A m c), rfl⟩
    case hJ => exact fun a c h hh => hh.grows h
    simp only [Act.put, List.setIfInBounds_toArray, List.set_cons_zero, List.set_cons_succ]
    refine phase_nil (fun w5 hk5 hI _ => ?_)
    have HQ2 := Aside0.mk hI
    have HG2 := Aside0.mk (pw_below_keep HG1.out hk5 (fun k e => by rw [e, HQ.out]; exact Nat.le_refl _))
    clear hI hk5
    go_wp2
    exact bodyPost_ret (results_cell_row rfl _ _ q 49 _ (0, 0) _ rfl HQ2.out Try.underlying49 rfl (by kernel_rfl)) rfl ⟨rfl, HG2.out⟩
  case ht => kernel_rfl
set_option maxRecDepth 100000 in
set_option maxHeartbeats 4000000 in
theorem pieceHas_calls (g : Nat) (kind : Int) (key : ByteArray) (id no size : Int) (LA : Option Addr) (ln lc : Nat) (A : Option Addr) (m c : Nat) (w : World) (hr : RecIs w g kind key id no size (.slice LA ln lc) (.slice A m c)) :
    Calls Try.prog 27 #[.pointer (some ⟨g, 0, none⟩)] w fun e w' => e = .returned (recV 0 (⟨#[]⟩ : ByteArray) id no 0 (.slice none 0 0) (.slice A m c)) ∧ Grows w w' := by
  have HR := Aside0.mk hr
  clear hr
  go_enter Try.func27, Try.ntmps27
  go_upto_region 1 with fail
  have HG1 := Aside0.mk (show Grows w _ from (Below.refl w.heap.size w).alloc (Nat.le_refl _) (.cells #[.int .i64 0, .string (⟨#[]⟩ : ByteArray), .int .i64 0, .int .i64 0, .int .i64 0, .slice none 0 0, .slice none 0 0] 49))
  have HQ1 := Aside0.mk (show RecT 49 _ _ 0 (⟨#[]⟩ : ByteArray) 0 0 0 (.slice none 0 0) (.slice none 0 0) from heap_alloc_new w (.cells #[.int .i64 0, .string (⟨#[]⟩ : ByteArray), .int .i64 0, .int .i64 0, .int .i64 0, .slice none 0 0, .slice none 0 0] 49))
  have HLT := Aside0.mk HR.out.lt
  generalize w.alloc (.cells #[.int .i64 0, .string (⟨#[]⟩ : ByteArray), .int .i64 0, .int .i64 0, .int .i64 0, .slice none 0 0, .slice none 0 0] 49) = w1 at HG1 HQ1 ⊢
  have HR1 := Aside0.mk (HR.out.grows HG1.out)
  have HQS := Aside0.mk (Nat.le_refl w.heap.size)
  generalize hq : w.heap.size = q at HQ1 HLT ⊢
  have HQ := Aside0.mk hq
  clear hq HQS
  have HNQ := Aside0.mk (show ¬ g = q by have := HLT.out; omega)
  apply wp_region_phase Grows (KeepS (fun k => k = q)) (phaseK _) (fun w' => RecT 49 w' q 0 (⟨#[]⟩ : ByteArray) 0 0 0 (.slice none 0 0) (.slice none 0 0)) HQ1.out (fun a c h hh => hh.grows h) (hm := by kernel_rfl) (hB := by kernel_rfl)
  case h =>
    iterate 3
      apply phase_fixed
      case hw => simp [Region.wanted, yielded]
      case ho =>
        intro w' hk hf
        clear hf
        refine ⟨?_⟩
        go_simp
        exact ⟨Grows.refl _, rfl⟩
      simp only [Act.put, List.setIfInBounds_toArray, List.set_cons_zero, List.set_cons_succ]
    apply phase_fixed (c := .int .i64 id)
    case hw => simp [Region.wanted, yielded]
    case ho =>
      intro w' hk hf
      clear hf
      have kk : RecIs w' g kind key id no size (.slice LA ln lc) (.slice A m c) := (hk.block g HR1.out.lt HNQ.out).trans HR1.out
      have kc := kk.c2
      clear kk
      refine ⟨?_⟩
      go_simp
      exact ⟨Grows.refl _, rfl⟩
    simp only [Act.put, List.setIfInBounds_toArray, List.set_cons_zero, List.set_cons_succ]
    iterate 3
      apply phase_fixed
      case hw => simp [Region.wanted, yielded]
      case ho =>
        intro w' hk hf
        clear hf
        refine ⟨?_⟩
        go_simp
        exact ⟨Grows.refl _, rfl⟩
      simp only [Act.put, List.setIfInBounds_toArray, List.set_cons_zero, List.set_cons_succ]
    apply phase_fixed (c := .int .i64 no)
    case hw => simp [Region.wanted, yielded]
    case ho =>
      intro w' hk hf
      clear hf
      have kk : RecIs w' g kind key id no size (.slice LA ln lc) (.slice A m c) := (hk.block g HR1.out.lt HNQ.out).trans HR1.out
      have kc := kk.c3
      clear kk
      refine ⟨?_⟩
      go_simp
      exact ⟨Grows.refl _, rfl⟩
    simp only [Act.put, List.setIfInBounds_toArray, List.set_cons_zero, List.set_cons_succ]
    iterate 3
      apply phase_fixed
      case hw => simp [Region.wanted, yielded]
      case ho =>
        intro w' hk hf
        clear hf
        refine ⟨?_⟩
        go_simp
        exact ⟨Grows.refl _, rfl⟩
      simp only [Act.put, List.setIfInBounds_toArray, List.set_cons_zero, List.set_cons_succ]
    apply phase_fixed (c := .slice A m c)
    case hw => simp [Region.wanted, yielded]
    case ho =>
      intro w' hk hf
      clear hf
      have kk : RecIs w' g kind key id no size (.slice LA ln lc) (.slice A m c) := (hk.block g HR1.out.lt HNQ.out).trans HR1.out
      have kc := kk.c6
      clear kk
      refine ⟨?_⟩
      go_simp
      exact ⟨Grows.refl _, rfl⟩
    simp only [Act.put, List.setIfInBounds_toArray, List.set_cons_zero, List.set_cons_succ]
    apply phase_fixed (c := recV 0 (⟨#[]⟩ : ByteArray) id no 0 (.slice none 0 0) (.slice A m c))
    case hw => simp [Region.wanted, yielded]
    case ho =>
      intro w' hk hf
      clear hf
      refine ⟨?_⟩
      go_simp
      exact ⟨Grows.refl _, rfl⟩
    simp only [Act.put, List.setIfInBounds_toArray, List.set_cons_zero, List.set_cons_succ]
    apply phase_turn (c := undef) (J := fun w' => RecT 49 w' q 0 (⟨#[]⟩ : ByteArray) id no 0 (.slice none 0 0) (.slice A m c))
    case hw => simp [Region.wanted, yielded]
    case ho =>
      intro w' hk hf hI
      clear hf
      have f0 := hI.fr 0
      have f1 := hI.fr 1
      have f2 := hI.fr 2
      have f3 := hI.fr 3
      have f4 := hI.fr 4
      have f5 := hI.fr 5
      have f6 := hI.fr 6
      have d0 := hI.c0
      have d1 := hI.c1
      have d2 := hI.c2
      have d3 := hI.c3
      have d4 := hI.c4
      have d5 := hI.c5
      have d6 := hI.c6
      have HI := Aside0.mk hI
      clear hI
      refine ⟨?_⟩
      unfold recV recCells
      go_simp
      exact ⟨KeepS.of_grown (setAll_grown w' q 0 (⟨#[]⟩ : ByteArray) id no 0 (.slice none 0 0) (.slice A m c)) (fun k e => by injection e with e; exact e.symm), setAll_rec HI.out 0 (⟨#[]⟩ : ByteArray) id no 0 (.slice none 0 0) (.slice A m c), rfl⟩
    case hJ => exact fun a c h hh => hh.grows h
    simp only [Act.put, List.setIfInBounds_toArray, List.set_cons_zero, List.set_cons_succ]
    refine phase_nil (fun w5 hk5 hI _ => ?_)
    have HQ2 := Aside0.mk hI
    have HG2 := Aside0.mk (pw_below_keep HG1.out hk5 (fun k e => by rw [e, HQ.out]; exact Nat.le_refl _))
    clear hI hk5
    go_wp2
    exact bodyPost_ret (results_cell_row rfl _ _ q 49 _ (0, 0) _ rfl HQ2.out Try.underlying49 rfl (by kernel_rfl)) rfl ⟨rfl, HG2.out⟩
  case ht => kernel_rfl
set_option maxRecDepth 100000 in
set_option maxHeartbeats 4000000 in
theorem rootHas_calls (g : Nat) (kind : Int) (key : ByteArray) (id no size : Int) (LA : Option Addr) (ln lc : Nat) (A : Option Addr) (m c : Nat) (w : World) (hr : RecIs w g kind key id no size (.slice LA ln lc) (.slice A m c)) :
    Calls Try.prog 31 #[.pointer (some ⟨g, 0, none⟩)] w fun e w' => e = .returned (recV 0 key id 0 size (.slice LA ln lc) (.slice none 0 0)) ∧ Grows w w' := by
  have HR := Aside0.mk hr
  clear hr
  go_enter Try.func31, Try.ntmps31
  go_upto_region 1 with fail
  have HG1 := Aside0.mk (show Grows w _ from (Below.refl w.heap.size w).alloc (Nat.le_refl _) (.cells #[.int .i64 0, .string (⟨#[]⟩ : ByteArray), .int .i64 0, .int .i64 0, .int .i64 0, .slice none 0 0, .slice none 0 0] 49))
  have HQ1 := Aside0.mk (show RecT 49 _ _ 0 (⟨#[]⟩ : ByteArray) 0 0 0 (.slice none 0 0) (.slice none 0 0) from heap_alloc_new w (.cells #[.int .i64 0, .string (⟨#[]⟩ : ByteArray), .int .i64 0, .int .i64 0, .int .i64 0, .slice none 0 0, .slice none 0 0] 49))
  have HLT := Aside0.mk HR.out.lt
  generalize w.alloc (.cells #[.int .i64 0, .string (⟨#[]⟩ : ByteArray), .int .i64 0, .int .i64 0, .int .i64 0, .slice none 0 0, .slice none 0 0] 49) = w1 at HG1 HQ1 ⊢
  have HR1 := Aside0.mk (HR.out.grows HG1.out)
  have HQS := Aside0.mk (Nat.le_refl w.heap.size)
  generalize hq : w.heap.size = q at HQ1 HLT ⊢
  have HQ := Aside0.mk hq
  clear hq HQS
  have HNQ := Aside0.mk (show ¬ g = q by have := HLT.out; omega)
  apply wp_region_phase Grows (KeepS (fun k => k = q)) (phaseK _) (fun w' => RecT 49 w' q 0 (⟨#[]⟩ : ByteArray) 0 0 0 (.slice none 0 0) (.slice none 0 0)) HQ1.out (fun a c h hh => hh.grows h) (hm := by kernel_rfl) (hB := by kernel_rfl)
  case h =>
    iterate 3
      apply phase_fixed
      case hw => simp [Region.wanted, yielded]
      case ho =>
        intro w' hk hf
        clear hf
        refine ⟨?_⟩
        go_simp
        exact ⟨Grows.refl _, rfl⟩
      simp only [Act.put, List.setIfInBounds_toArray, List.set_cons_zero, List.set_cons_succ]
    apply phase_fixed (c := .string key)
    case hw => simp [Region.wanted, yielded]
    case ho =>
      intro w' hk hf
      clear hf
      have kk : RecIs w' g kind key id no size (.slice LA ln lc) (.slice A m c) := (hk.block g HR1.out.lt HNQ.out).trans HR1.out
      have kc := kk.c1
      clear kk
      refine ⟨?_⟩
      go_simp
      exact ⟨Grows.refl _, rfl⟩
    simp only [Act.put, List.setIfInBounds_toArray, List.set_cons_zero, List.set_cons_succ]
    iterate 3
      apply phase_fixed
      case hw => simp [Region.wanted, yielded]
      case ho =>
        intro w' hk hf
        clear hf
        refine ⟨?_⟩
        go_simp
        exact ⟨Grows.refl _, rfl⟩
      simp only [Act.put, List.setIfInBounds_toArray, List.set_cons_zero, List.set_cons_succ]
    apply phase_fixed (c := .int .i64 id)
    case hw => simp [Region.wanted, yielded]
    case ho =>
      intro w' hk hf
      clear hf
      have kk : RecIs w' g kind key id no size (.slice LA ln lc) (.slice A m c) := (hk.block g HR1.out.lt HNQ.out).trans HR1.out
      have kc := kk.c2
      clear kk
      refine ⟨?_⟩
      go_simp
      exact ⟨Grows.refl _, rfl⟩
    simp only [Act.put, List.setIfInBounds_toArray, List.set_cons_zero, List.set_cons_succ]
    iterate 3
      apply phase_fixed
      case hw => simp [Region.wanted, yielded]
      case ho =>
        intro w' hk hf
        clear hf
        refine ⟨?_⟩
        go_simp
        exact ⟨Grows.refl _, rfl⟩
      simp only [Act.put, List.setIfInBounds_toArray, List.set_cons_zero, List.set_cons_succ]
    apply phase_fixed (c := .int .i64 size)
    case hw => simp [Region.wanted, yielded]
    case ho =>
      intro w' hk hf
      clear hf
      have kk : RecIs w' g kind key id no size (.slice LA ln lc) (.slice A m c) := (hk.block g HR1.out.lt HNQ.out).trans HR1.out
      have kc := kk.c4
      clear kk
      refine ⟨?_⟩
      go_simp
      exact ⟨Grows.refl _, rfl⟩
    simp only [Act.put, List.setIfInBounds_toArray, List.set_cons_zero, List.set_cons_succ]
    iterate 3
      apply phase_fixed
      case hw => simp [Region.wanted, yielded]
      case ho =>
        intro w' hk hf
        clear hf
        refine ⟨?_⟩
        go_simp
        exact ⟨Grows.refl _, rfl⟩
      simp only [Act.put, List.setIfInBounds_toArray, List.set_cons_zero, List.set_cons_succ]
    apply phase_fixed (c := .slice LA ln lc)
    case hw => simp [Region.wanted, yielded]
    case ho =>
      intro w' hk hf
      clear hf
      have kk : RecIs w' g kind key id no size (.slice LA ln lc) (.slice A m c) := (hk.block g HR1.out.lt HNQ.out).trans HR1.out
      have kc := kk.c5
      clear kk
      refine ⟨?_⟩
      go_simp
      exact ⟨Grows.refl _, rfl⟩
    simp only [Act.put, List.setIfInBounds_toArray, List.set_cons_zero, List.set_cons_succ]
    apply phase_fixed (c := recV 0 key id 0 size (.slice LA ln lc) (.slice none 0 0))
    case hw => simp [Region.wanted, yielded]
    case ho =>
      intro w' hk hf
      clear hf
      refine ⟨?_⟩
      go_simp
      exact ⟨Grows.refl _, rfl⟩
    simp only [Act.put, List.setIfInBounds_toArray, List.set_cons_zero, List.set_cons_succ]
    apply phase_turn (c := undef) (J := fun w' => RecT 49 w' q 0 key id 0 size (.slice LA ln lc) (.slice none 0 0))
    case hw => simp [Region.wanted, yielded]
    case ho =>
      intro w' hk hf hI
      clear hf
      have f0 := hI.fr 0
      have f1 := hI.fr 1
      have f2 := hI.fr 2
      have f3 := hI.fr 3
      have f4 := hI.fr 4
      have f5 := hI.fr 5
      have f6 := hI.fr 6
      have d0 := hI.c0
      have d1 := hI.c1
      have d2 := hI.c2
      have d3 := hI.c3
      have d4 := hI.c4
      have d5 := hI.c5
      have d6 := hI.c6
      have HI := Aside0.mk hI
      clear hI
      refine ⟨?_⟩
      unfold recV recCells
      go_simp
      exact ⟨KeepS.of_grown (setAll_grown w' q 0 key id 0 size (.slice LA ln lc) (.slice none 0 0)) (fun k e => by injection e with e; exact e.symm), setAll_rec HI.out 0 key id 0 size (.slice LA ln lc) (.slice none 0 0), rfl⟩
    case hJ => exact fun a c h hh => hh.grows h
    simp only [Act.put, List.setIfInBounds_toArray, List.set_cons_zero, List.set_cons_succ]
    refine phase_nil (fun w5 hk5 hI _ => ?_)
    have HQ2 := Aside0.mk hI
    have HG2 := Aside0.mk (pw_below_keep HG1.out hk5 (fun k e => by rw [e, HQ.out]; exact Nat.le_refl _))
    clear hI hk5
    go_wp2
    exact bodyPost_ret (results_cell_row rfl _ _ q 49 _ (0, 0) _ rfl HQ2.out Try.underlying49 rfl (by kernel_rfl)) rfl ⟨rfl, HG2.out⟩
  case ht => kernel_rfl
end Go.Proofs.Ytemnhgmgffdncaa
