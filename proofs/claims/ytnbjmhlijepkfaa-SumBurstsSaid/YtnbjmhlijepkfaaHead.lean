/-
  The live question of layer 1 answers true.
-/
import Derived.Test.YtnbjmhlijepkfaaOf
import Derived.Test.YtnbjmhlijepkfaaGrow
namespace Go.Proofs.Ytnbjmhlijepkfaa
set_option linter.unusedVariables false
set_option linter.unusedSimpArgs false
open Go.RowKit Crc

theorem tab0 : tab 0 = 0#32 := by decide
theorem tab1 : tab 1 = 4067132163#32 := by decide
theorem tab255 : tab 255 = 2910671697#32 := by decide
theorem digits9 : on tab 0#32 [49, 50, 51, 52, 53, 54, 55, 56, 57] = 3808858755#32 := by decide
theorem digits4 : on tab 0#32 [49, 50, 51, 52] = 4131058926#32 := by decide
theorem digits45 : on tab 4131058926#32 [53, 54, 55, 56, 57] = 3808858755#32 := by decide

theorem bytes_new {B : Nat} {w : World} {g n c : Nat} (zs : List Int) (h : NewRow B 5 (zs.map (Value.int .u8)) (.slice (some ⟨g, 0, none⟩) n c) w) (hz : ∀ z ∈ zs, isByte z) (hl : zs.length ≤ 9223372036854775807) : Bytes w (some ⟨g, 0, none⟩) n zs := by
  have hn : n = zs.length := by obtain ⟨_, _, e, _, _⟩ := h; cases e; simp
  subst hn
  refine ⟨rfl, hl, hz, fun _ => ⟨_, rfl, fun j hj => ?_⟩⟩
  have e : (⟨g, 0, none⟩ : Addr).add j = ⟨g, j, none⟩ := by unfold Addr.add; split <;> simp_all
  rw [e, h.cell j]
  simp [hj]
theorem slice_nil (w : World) : Bytes w none 0 [] := ⟨rfl, by decide, fun z h => (by cases h), fun h => absurd h (by decide)⟩

/-- The table lies in block B. -/
structure TabAt (w : World) (B : Nat) : Prop where
  row : w.heap[B]? = some (.cells (cellsOf tab) 23 (0, 0))
  c0 : w.cell? ⟨B, 0, none⟩ = some (.int .u32 0)
  c1 : w.cell? ⟨B, 1, none⟩ = some (.int .u32 4067132163)
  c255 : w.cell? ⟨B, 255, none⟩ = some (.int .u32 2910671697)
theorem TabAt.of {w : World} {B : Nat} (e : w.heap[B]? = some (.cells (cellsOf tab) 23 (0, 0))) : TabAt w B := by
  refine ⟨e, ?_, ?_, ?_⟩
  · rw [cell_of_row w B 0 _ 23 _ e, cellsOf_get tab 0 (by omega), tab0]; rfl
  · rw [cell_of_row w B 1 _ 23 _ e, cellsOf_get tab 1 (by omega), tab1]; rfl
  · rw [cell_of_row w B 255 _ 23 _ e, cellsOf_get tab 255 (by omega), tab255]; rfl
theorem TabAt.below {w w' : World} {B : Nat} (h : TabAt w B) (hb : Below w.heap.size w w') : TabAt w' B :=
  .of ((hb.block B (Array.getElem?_eq_some_iff.1 h.row).1).trans h.row)

attribute [local go_sem] growUpon
set_option maxRecDepth 100000 in
set_option maxHeartbeats 1000000 in
theorem head_calls (w : World) :
    Calls Try.prog 9 #[] w fun e w' => e = .returned (.bool true) ∧ Below w.heap.size w w' := by
  have HZ := Aside0.mk zero23
  go_enter Try.func9, Try.ntmps9
  go_wp2_with (first | (go_at_call 10; refine (table_calls _).mono ?_; rintro e w1 ⟨rfl, hb1⟩; have hz := HZ.out) | (refine wpList_store_row rfl 23 _ _ rfl w1.heap.size (cellsOf tab) rfl rfl 23 zs0 (heap_alloc_new _ _) (by rw [info23, cellsOf_size]) (by rw [zs0, cellsOf_size, cellsOf_size]) (cellsOf_one tab) ?_))
  simp only [Act.put]
  have hb2 : Below w.heap.size w ((w1.alloc (Obj.cells zs0 23)).setRow w1.heap.size (cellsOf tab)) := below_setRow (hb1.alloc hb1.size _) _ _ hb1.size
  have hrow : ((w1.alloc (Obj.cells zs0 23)).setRow w1.heap.size (cellsOf tab)).heap[w1.heap.size]? = some (.cells (cellsOf tab) 23 (0, 0)) := setRow_heap _ _ _ _ _ _ (heap_alloc_new _ _)
  generalize (w1.alloc (Obj.cells zs0 23)).setRow w1.heap.size (cellsOf tab) = W at hb2 hrow ⊢
  generalize w1.heap.size = B at hrow ⊢
  have HH := Aside0.mk (TabAt.of hrow)
  have HB := Aside0.mk hb2
  clear hrow hb1 hb2 HZ hz
  apply wp_region_grow (hm := by kernel_rfl) (hB := by kernel_rfl)
  case h =>
    iterate 14 (
      apply grow_fixed
      case hw => simp [Region.wanted, yielded]
      case ho =>
        intro w' hb hf
        have h := HH.out.below hb
        have h0 := h.c0
        have h1 := h.c1
        have h255 := h.c255
        clear h
        clear hf
        refine ⟨?_⟩
        go_simp
        exact ⟨Ext.refl _ _, rfl⟩
      simp only [Act.put])
    apply grow_fixed
    case hw => simp [Region.wanted, yielded]
    case ho =>
      intro w' hb hf
      exact growAt_load_row 23 (.tmp 1) rfl B (by simp [Act.eval]) 23 (cellsOf tab) (0, 0) (.array 256 22) (HH.out.below hb).row Try.underlying23 rfl (by rw [info23, cellsOf_size]) ⟨Ext.refl _ _, rfl⟩
    simp only [Act.put]
    apply grow_free (G := NewRow W.heap.size 5 ([49, 50, 51, 52, 53, 54, 55, 56, 57].map (Value.int .u8)))
    case hw => simp [Region.wanted, yielded]
    case hm => exact NewRow.mono
    case ho =>
      intro w' hb hf
      clear hf
      refine ⟨?_⟩
      go_simp
      exact ⟨.of_below hb.size ((Below.refl _ _).alloc (Nat.le_refl _) _), NewRow.alloc 5 ([49, 50, 51, 52, 53, 54, 55, 56, 57].map (Value.int .u8)) w' hb.size⟩
    intro v1
    simp only [Act.put]
    apply grow_free (G := NewRow W.heap.size 5 ([49, 50, 51, 52, 53, 54, 55, 56, 57].map (Value.int .u8)))
    case hw => simp [Region.wanted, yielded]
    case hm => exact NewRow.mono
    case ho =>
      intro w' hb hf
      have hr := hf _ List.mem_cons_self (by kernel_rfl)
      clear hf
      have hr' := hr
      obtain ⟨g, fr, rfl, hg, hh⟩ := hr
      have hc := run_convert_mark w' 24 5 g _ fr 9 9 hh Try.underlying24 Try.underlying5
      refine ⟨?_⟩
      clear hh
      go_simp
      exact ⟨Ext.freeze hg, hr'.freeze _ _ _⟩
    intro v2
    simp only [Act.put]
    apply grow_fixed (c := .int .u32 3808858755)
    case hw => simp [Region.wanted, yielded]
    case ho =>
      intro w' hb hf
      have hr := hf _ List.mem_cons_self (by kernel_rfl)
      clear hf
      have hr' := hr
      obtain ⟨g, fr, rfl, hg, hh⟩ := hr
      have HB := Aside0.mk (bytes_new [49, 50, 51, 52, 53, 54, 55, 56, 57] hr' (by simp [isByte]) (by decide))
      clear hr' hh
      refine ⟨?_⟩
      go_simp
      exact (of_calls tab _ _ _ _ w' HB.out).mono fun e w2 ⟨he, hb2⟩ => ⟨by rw [he, digits9]; rfl, .of_below hb.size hb2⟩
    simp only [Act.put]
    iterate 3 (
      apply grow_fixed
      case hw => simp [Region.wanted, yielded]
      case ho =>
        intro w' hb hf
        clear hf
        refine ⟨?_⟩
        go_simp
        exact ⟨Ext.refl _ _, rfl⟩
      simp only [Act.put])
    apply grow_fixed
    case hw => simp [Region.wanted, yielded]
    case ho =>
      intro w' hb hf
      exact growAt_load_row 23 (.tmp 1) rfl B (by simp [Act.eval]) 23 (cellsOf tab) (0, 0) (.array 256 22) (HH.out.below hb).row Try.underlying23 rfl (by rw [info23, cellsOf_size]) ⟨Ext.refl _ _, rfl⟩
    simp only [Act.put]
    apply grow_fixed
    case hw => simp [Region.wanted, yielded]
    case ho =>
      intro w' hb hf
      exact growAt_load_row 23 (.tmp 1) rfl B (by simp [Act.eval]) 23 (cellsOf tab) (0, 0) (.array 256 22) (HH.out.below hb).row Try.underlying23 rfl (by rw [info23, cellsOf_size]) ⟨Ext.refl _ _, rfl⟩
    simp only [Act.put]
    apply grow_free (G := NewRow W.heap.size 5 ([49, 50, 51, 52].map (Value.int .u8)))
    case hw => simp [Region.wanted, yielded]
    case hm => exact NewRow.mono
    case ho =>
      intro w' hb hf
      clear hf
      refine ⟨?_⟩
      go_simp
      exact ⟨.of_below hb.size ((Below.refl _ _).alloc (Nat.le_refl _) _), NewRow.alloc 5 ([49, 50, 51, 52].map (Value.int .u8)) w' hb.size⟩
    intro v3
    simp only [Act.put]
    apply grow_free (G := NewRow W.heap.size 5 ([49, 50, 51, 52].map (Value.int .u8)))
    case hw => simp [Region.wanted, yielded]
    case hm => exact NewRow.mono
    case ho =>
      intro w' hb hf
      have hr := hf _ List.mem_cons_self (by kernel_rfl)
      clear hf
      have hr' := hr
      obtain ⟨g, fr, rfl, hg, hh⟩ := hr
      have hc := run_convert_mark w' 24 5 g _ fr 4 4 hh Try.underlying24 Try.underlying5
      refine ⟨?_⟩
      clear hh
      go_simp
      exact ⟨Ext.freeze hg, hr'.freeze _ _ _⟩
    intro v4
    simp only [Act.put]
    apply grow_fixed (c := .int .u32 4131058926)
    case hw => simp [Region.wanted, yielded]
    case ho =>
      intro w' hb hf
      have hr := hf _ List.mem_cons_self (by kernel_rfl)
      clear hf
      have hr' := hr
      obtain ⟨g, fr, rfl, hg, hh⟩ := hr
      have HB := Aside0.mk (bytes_new [49, 50, 51, 52] hr' (by simp [isByte]) (by decide))
      clear hr' hh
      refine ⟨?_⟩
      go_simp
      exact (of_calls tab _ _ _ _ w' HB.out).mono fun e w2 ⟨he, hb2⟩ => ⟨by rw [he, digits4]; rfl, .of_below hb.size hb2⟩
    simp only [Act.put]
    apply grow_free (G := NewRow W.heap.size 5 ([53, 54, 55, 56, 57].map (Value.int .u8)))
    case hw => simp [Region.wanted, yielded]
    case hm => exact NewRow.mono
    case ho =>
      intro w' hb hf
      clear hf
      refine ⟨?_⟩
      go_simp
      exact ⟨.of_below hb.size ((Below.refl _ _).alloc (Nat.le_refl _) _), NewRow.alloc 5 ([53, 54, 55, 56, 57].map (Value.int .u8)) w' hb.size⟩
    intro v5
    simp only [Act.put]
    apply grow_free (G := NewRow W.heap.size 5 ([53, 54, 55, 56, 57].map (Value.int .u8)))
    case hw => simp [Region.wanted, yielded]
    case hm => exact NewRow.mono
    case ho =>
      intro w' hb hf
      have hr := hf _ List.mem_cons_self (by kernel_rfl)
      clear hf
      have hr' := hr
      obtain ⟨g, fr, rfl, hg, hh⟩ := hr
      have hc := run_convert_mark w' 24 5 g _ fr 5 5 hh Try.underlying24 Try.underlying5
      refine ⟨?_⟩
      clear hh
      go_simp
      exact ⟨Ext.freeze hg, hr'.freeze _ _ _⟩
    intro v6
    simp only [Act.put]
    apply grow_fixed (c := .int .u32 3808858755)
    case hw => simp [Region.wanted, yielded]
    case ho =>
      intro w' hb hf
      have hr := hf _ List.mem_cons_self (by kernel_rfl)
      clear hf
      have hr' := hr
      obtain ⟨g, fr, rfl, hg, hh⟩ := hr
      have HB := Aside0.mk (bytes_new [53, 54, 55, 56, 57] hr' (by simp [isByte]) (by decide))
      clear hr' hh
      refine ⟨?_⟩
      go_simp
      exact (on_calls tab 4131058926#32 _ _ _ _ w' HB.out).mono fun e w2 ⟨he, hb2⟩ => ⟨by rw [he, digits45]; rfl, .of_below hb.size hb2⟩
    simp only [Act.put]
    iterate 3 (
      apply grow_fixed
      case hw => simp [Region.wanted, yielded]
      case ho =>
        intro w' hb hf
        clear hf
        refine ⟨?_⟩
        go_simp
        exact ⟨Ext.refl _ _, rfl⟩
      simp only [Act.put])
    apply grow_fixed
    case hw => simp [Region.wanted, yielded]
    case ho =>
      intro w' hb hf
      exact growAt_load_row 23 (.tmp 1) rfl B (by simp [Act.eval]) 23 (cellsOf tab) (0, 0) (.array 256 22) (HH.out.below hb).row Try.underlying23 rfl (by rw [info23, cellsOf_size]) ⟨Ext.refl _ _, rfl⟩
    simp only [Act.put]
    apply grow_fixed (c := .int .u32 0)
    case hw => simp [Region.wanted, yielded]
    case ho =>
      intro w' hb hf
      clear hf
      refine ⟨?_⟩
      go_simp
      exact (of_calls tab none 0 0 [] w' (slice_nil w')).mono fun e w2 ⟨he, hb2⟩ => ⟨by rw [he, on_nil]; rfl, .of_below hb.size hb2⟩
    simp only [Act.put]
    iterate 3 (
      apply grow_fixed
      case hw => simp [Region.wanted, yielded]
      case ho =>
        intro w' hb hf
        clear hf
        refine ⟨?_⟩
        go_simp
        exact ⟨Ext.refl _ _, rfl⟩
      simp only [Act.put])
    refine grow_nil (fun w' hb hf => ?_)
    clear hf
    go_wp2
    go_ret
    refine ⟨?_, below_tail HB.out hb⟩
    simp
  case hsp => exact ⟨NewRow.mono, NewRow.mono, NewRow.mono, NewRow.mono, NewRow.mono, NewRow.mono, trivial⟩
end Go.Proofs.Ytnbjmhlijepkfaa
