/-
  Layer 7: Size, by a walk: a range over begins.
-/
import Derived.Test.YtbadkblofihjhaaSpan
namespace Go.Proofs.Ytbadkblofihjhaa
set_option linter.unusedVariables false
set_option linter.unusedSimpArgs false
open Go.RowKit Go.Shelf Go.Proofs.YtbadkblofihjhaaW.PrintWords
attribute [local go_sem] Oper.semAt_some

set_option maxRecDepth 100000 in
set_option maxHeartbeats 2000000 in
theorem size_calls (A : Option Addr) (len cap : Nat) (zs : List Int) (w : World) (hI : ReadsInt w .i64 A len zs) :
    Calls Try.prog 14 #[.slice A len cap] w fun e W' => e = .returned (.int .i64 (sizeOf zs)) ∧ Below w.heap.size w W' := by
  refine (callsIn_wide (n := 5)).1 ?_
  have HR := Aside0.mk hI
  have hm := hI.2.1
  have HL := Aside0.mk hI.1
  clear hI
  have hbx : Below w.heap.size w (w.alloc (.cells #[.slice A len cap] 22)) := (Below.refl _ w).alloc (Nat.le_refl _) _
  have HBX := Aside0.mk hbx
  have H16 := Aside0.mk (right_calls A len cap zs (w.alloc (.cells #[.slice A len cap] 22)) (HR.out.below hbx))
  clear hbx
  have hro : Fence.wide.round = none := rfl
  refine callsIn_of_wp_marks Try.func14 rfl trivial ?_ hro
  simp only [Try.ntmps14, List.size_toArray, List.length_cons, List.length_nil, Nat.reduceAdd, Nat.reduceSub, Array.replicate_succ, Array.replicate_zero, List.push_toArray, List.append_toArray, List.nil_append, List.cons_append]
  by_cases h0 : len = 0
  · subst h0
    gi_wp2
    refine ⟨trivial, ?_⟩
    gi_wp2
    have hz : zs = [] := List.eq_nil_of_length_eq_zero HL.out
    exact ⟨_, results_tmp rfl _ _ _, by simp [hz, sizeOf], HBX.out⟩
  · have hd : (((len : Int)) == 0) = false := by rw [beq_eq_false_iff_ne]; omega
    cases hrb : rightB zs with
    | false =>
      rw [hrb] at H16
      have HRB := Aside0.mk hrb
      clear hrb
      gi_wp2_with (refine ⟨trivial, ?_⟩; gi_at_call 16; refine (callsIn_wide.2 H16.out).mono ?_; rintro e w' ⟨rfl, rfl⟩)
      exact ⟨_, results_tmp rfl _ _ _, by simp [HRB.out, sizeOf], HBX.out⟩
    | true =>
      rw [hrb] at H16
      have HRB := Aside0.mk hrb
      clear hrb
      gi_wp2_with (first | (refine ⟨trivial, ?_⟩; gi_at_call 16; refine (callsIn_wide.2 H16.out).mono ?_; rintro e w' ⟨rfl, rfl⟩) | (refine ⟨trivial, ?_⟩; gi_at_call 17; refine (begins_in Fence.wide _ trivial rfl _ _ _ _).mono ?_; rintro e w' ⟨rfl, rfl⟩))
      have bA := Boxed.new (w.alloc (.cells #[.slice A len cap] 22)) 3 (.int .i64 0)
      have bN := Boxed.new ((w.alloc (.cells #[.slice A len cap] 22)).alloc (.cells #[.int .i64 0] 3)) 22 (.slice A len cap)
      rw [World.size_alloc] at bN
      rw [World.size_alloc] at bA bN
      have hB1 : Below w.heap.size w (((w.alloc (.cells #[.slice A len cap] 22)).alloc (.cells #[.int .i64 0] 3)).alloc (.cells #[.slice A len cap] 22)) := (HBX.out.alloc (by simp) _).alloc (by simp; omega) _
      have bX : (((w.alloc (.cells #[.slice A len cap] 22)).alloc (.cells #[.int .i64 0] 3)).alloc (.cells #[.slice A len cap] 22)).cell? ⟨w.heap.size, 0, none⟩ = some (.slice A len cap) := by
        rw [World.cell?_alloc_lt _ _ _ (by simp; omega), World.cell?_alloc_lt _ _ _ (by simp), World.cell?_alloc_new]; rfl
      refine wpIn_rangeFunc_ownG (α := Fin len) hro (by omega) (gf := 21) (lb := #[.pointer (some ⟨w.heap.size + 1 + 1, 0, none⟩)]) rfl trivial (enters_of Try.func21 (by kernel_rfl) rfl)
        (begins_stops Fence.wide 4 trivial hro (by omega) (w.heap.size + 1 + 1) w.heap.size A len cap zs HRB.out w _ rfl HR.out hB1 (by simp) bN.cell) belowK_t (belowK_b (by simp; omega)) (Below.refl _ _) (fun _ => rfl)
        (fun pre W => (W.cell? ⟨w.heap.size, 0, none⟩ = some (.slice A len cap) ∧ W.cell? ⟨w.heap.size + 1, 0, none⟩ = some (.int .i64 (lastAt zs pre)) ∧ W.frozen? ⟨w.heap.size + 1, 0, none⟩ = false) ∧ Below w.heap.size w W)
        (fun _ _ _ => False)
        (OwnFrom.and (Own.from (fun s A B row hs hg hr => ⟨cell_kept hs.1 hg hr, cell_kept hs.2.1 hg hr, (frozen_kept hs.2.1 hg hr).trans hs.2.2⟩) _) (ownFrom_below (Nat.le_refl _) (by simp; omega)))
        (fun _ _ _ _ _ hs _ _ => hs)
        ⟨⟨bX, (bA.alloc _).cell, (bA.alloc _).frozen⟩, hB1⟩
        (fun x => { tmps := #[.slice A len cap, .pointer (some ⟨w.heap.size, 0, none⟩), .int .i64 0, .pointer (some ⟨w.heap.size + 1, 0, none⟩), .int .i64 (x.val : Int), .int .i64 (at_ zs x.val), .slice A len cap, .int .i64 len, .bool false, .bool false, .slice A len cap, .bool true, .bool false, .bool false, .slice A len cap, .func (.func 21) #[] #[.pointer (some ⟨w.heap.size + 1 + 1, 0, none⟩)], .int .i64 (x.val : Int), .int .i64 (at_ zs x.val), undef, undef, undef, undef, undef, undef, undef], defers := [] }) ?assign ?body ?done ?stop
      case assign =>
        intro l x W K hK
        unfold enc2
        gi_wp2
        exact hK
      case body =>
        rintro l pre x W ⟨⟨hx, hc, hf⟩, hB⟩ _
        obtain ⟨k, hk⟩ := x
        obtain ⟨ad, rfl, hcell⟩ := HR.out.2.2 (by omega)
        have hcx := (hB.cell (p := ad.add k) (World.block_lt_of_cell? w _ (hcell k hk))).trans (hcell k hk)
        have HS := Aside0.mk (at_succ zs k (by have := HL.out; omega))
        have hb1 := right_getD HRB.out k (by have := HL.out; omega)
        have hb2 := at_bound HRB.out k (by have := HL.out; omega)
        have hlen := (right_all HRB.out).1
        rw [HL.out] at hlen
        obtain ⟨hb10, hb11⟩ := hb1
        obtain ⟨hb20, hb21⟩ := hb2
        have hb22 : at_ zs k ≤ 2097152 := by omega
        clear hb21 hcell
        generalize zs.getD k 0 = z at hcx HS hb10 hb11
        generalize ha : at_ zs k = a at HS hb20 hb22
        have HA := Aside0.mk ha
        clear ha
        have HB' := Aside0.mk hB
        have HC := Aside0.mk hc
        have HF := Aside0.mk hf
        have HX := Aside0.mk hx
        simp only [HA.out]
        gi_wp2
        refine ⟨(KeepsOthers.setCell _ _ _).from _, (Below.refl w.heap.size W).setCell (p := ⟨w.heap.size + 1, 0, none⟩) (Nat.le_succ _) _, ⟨?_, ?_, ?_⟩, HB'.out.setCell (p := ⟨w.heap.size + 1, 0, none⟩) (Nat.le_succ _) _⟩
        · rw [World.cell?_setCell_other _ _ _ _ (by simp)]; exact HX.out
        · rw [lastAt_snoc, HS.out]; exact World.cell?_setCell_same' _ _ _ (by rw [HC.out]; rfl)
        · rw [World.frozen?_setCell]; exact HF.out
      case done =>
        rintro D ys W hD hys ⟨⟨_, hc, _⟩, hB⟩ hK
        gi_wp2
        refine ⟨by simp, .inl ⟨_, _, rfl, run_takeDeferred hK, ?_⟩⟩
        refine ⟨_, results_tmp rfl _ _ _, ?_, hB.trans (belowK_b (w := w) (Nat.le_refl _) W D _ _ (by simp at hD; omega) hK rfl rfl)⟩
        have e : lastAt zs ys = sizeOf zs := by
          rw [lastAt_all hys]
          have := at_all zs
          rw [HL.out] at this
          rw [this, sizeOf, HRB.out]; rfl
        rw [← e]; simp
      case stop =>
        rintro D c pre W _ _ h _
        exact h.elim
end Go.Proofs.Ytbadkblofihjhaa
