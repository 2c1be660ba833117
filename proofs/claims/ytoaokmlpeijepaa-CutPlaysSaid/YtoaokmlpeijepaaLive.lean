/-
  Layer 6: the live question.
-/
import Derived.Test.YtoaokmlpeijepaaSame
namespace Go.Proofs.Ytoaokmlpeijepaa
set_option linter.unusedVariables false
set_option linter.unusedSimpArgs false
open Go.RowKit Go.Proofs.YtoaokmlpeijepaaW.PrintWords

theorem PiecesAt.below {W W' : World} {n0 : Nat} {v : Value} {each : Nat} {L : List Int} {xs : List (Nat × Nat)} (h : PiecesAt W n0 v each L xs) (hb : Below W.heap.size W W') : PiecesAt W' n0 v each L xs :=
  h.step (grown_of_below hb none) (fun k cs t e _ => by cases e)
/-- A step that turns a cutter alone. -/
theorem PiecesAt.cut {W W' : World} {n0 : Nat} {v : Value} {each : Nat} {L : List Int} {xs : List (Nat × Nat)} (h : PiecesAt W n0 v each L xs) {g : Nat} {e all : Int} {A : Option Addr} {c : Nat} {M : List Int} (hc : CutAt W g e all A c M) (hg : W.grownBy W' (some g)) : PiecesAt W' n0 v each L xs :=
  h.step hg (fun k cs t e hk => by
    injection e with e
    subst e
    rw [hc.blk] at hk
    injection hk with hk
    injection hk with _ h2
    subst h2
    exact ⟨by decide, by decide⟩)
theorem write_head (g : Nat) (all : Int) (A : Option Addr) (c : Nat) (L : List Int) (Ab : Option Addr) (m cb : Nat) (b : List Int) (x y z : Int) (w : World) (hM : L ++ b = [x, y, z]) (hc : CutAt w g 2 all A c L) (hb : ReadsInt w .u8 Ab m b) (ha0 : 0 ≤ all) (ha1 : all ≤ 4611686018427387904) :
    Calls Try.prog 14 #[.pointer (some ⟨g, 0, none⟩), .slice Ab m cb] w fun e W' => ∃ v xs A' c', e = .returned v ∧ xs.length = 1 ∧ PiecesAt W' w.heap.size v 2 [x, y, z] xs ∧ CutAt W' g 2 (all + m) A' c' [z] ∧ w.grownBy W' (some g) := by
  have hl : L.length + m = 3 := by
    have h1 := congrArg List.length hM
    rw [List.length_append, hb.1] at h1
    exact h1
  refine (write_calls g 2 all A c L Ab m cb b w hc hb (by omega) (by omega) (by omega) ha0 ha1).mono ?_
  rintro e W' ⟨v, xs, rfl, hrow, hout, hlt, hg⟩
  rw [hM] at hout hlt
  have h1 := hout.le
  have hn : xs.length = 1 := by simp only [List.length_cons, List.length_nil] at h1 hlt; omega
  obtain ⟨A', c', hcut, -⟩ := hout.cut
  rw [hn] at hcut
  exact ⟨v, xs, A', c', rfl, hn, ⟨hrow, hout.piece, hout.le⟩, hcut, hg⟩
theorem pieces1 {W : World} {n0 : Nat} {v : Value} {x y z : Int} {xs : List (Nat × Nat)} (h : PiecesAt W n0 v 2 [x, y, z] xs) (hn : xs.length = 1) : ∃ A c, v = .slice A 1 c ∧ Kd.C (Kd.slice 5 (Kd.int .u8)) W A 1 [[x, y]] := by
  obtain ⟨A, c, e, _, hC⟩ := h.reads (by simp) (by omega)
  rw [hn] at e hC
  exact ⟨A, c, e, hC⟩
theorem lit_rows {W : World} {gr gl : Nat} {x y : Int} {fr : Nat × Nat} (h1 : W.heap[gr]? = some (Obj.cells #[.slice (some ⟨gl, 0, none⟩) 2 2] 29 (0, 0))) (h2 : W.heap[gl]? = some (Obj.cells #[.int .u8 x, .int .u8 y] 5 fr)) : Kd.C (Kd.slice 5 (Kd.int .u8)) W (some ⟨gr, 0, none⟩) 1 [[x, y]] := by
  refine ⟨rfl, by omega, fun _ => ⟨_, rfl, fun j p hp => ?_⟩⟩
  have hj : j = 0 := by
    rcases Nat.eq_zero_or_pos j with h | h
    · exact h
    · rw [List.getElem?_eq_none (by simp; omega)] at hp; cases hp
  subst hj
  obtain rfl := Option.some.inj hp
  refine ⟨[.slice (some ⟨gl, 0, none⟩) 2 2], rfl, ⟨_, 2, rfl, Nat.le_refl _, C_of_u8 (lit_reads (xs := [x, y]) (by simp) h2)⟩, fun t u hu => ?_⟩
  cases t with
  | zero =>
    obtain rfl := Option.some.inj hu
    have := cell_of_row W gr 0 _ 29 (0, 0) h1
    exact this
  | succ t => cases hu

theorem conv_e {w : World} {A : Option Addr} (h : ReadsInt w .u8 A 1 [101]) (c : Nat) : (convert 29 9 (.slice A 1 c)).run Try.prog w = .ok (.string ⟨#[101]⟩) w := conv_str h c
set_option maxRecDepth 100000 in
set_option maxHeartbeats 4000000 in
theorem head_calls (w : World) : Calls Try.prog 8 #[] w fun e w' => e = .returned (.bool true) ∧ Below w.heap.size w w' := by
  go_enter Try.func8, Try.ntmps8
  go_upto_region 2 with (go_at_call 10; refine (new_calls 2 _ (by omega) (by omega)).mono ?_; rintro e w1 ⟨g, rfl, hg0, hc1, hb1⟩; have HG0 := Aside0.mk hg0; have HC1 := Aside0.mk hc1; have HB1 := Aside0.mk hb1; clear hg0 hc1 hb1)
  go_upto_region 4 with (go_at_call 10; refine (new_none _ _ (by omega)).mono ?_; rintro e w' ⟨rfl, hww⟩; replace hww := hww.symm; subst hww)
  go_upto_region 5 with (first
    | (refine wpList_mark (.tmp 18) (by simp [Region.wanted]) rfl _ 3 3 #[.int .u8 97, .int .u8 98, .int .u8 99] rfl (heap_alloc_new _ _) ?_
       intro w2 hg2 hf2
       have HB2 := Aside0.mk (pw_below_grown (below_alloc (Below.refl w1.heap.size w1) (.cells #[.int .u8 97, .int .u8 98, .int .u8 99] 5)) (some w1.heap.size) (below_alloc (Below.refl w1.heap.size w1) _).size hg2 (fun k e => by injection e with e; omega))
       have HF2 := Aside0.mk hf2
       clear hg2 hf2)
    | (go_at_call 14
       refine (write_head g 0 none 0 [] _ 3 3 [97, 98, 99] 97 98 99 w2 rfl (HC1.out.below HB2.out) (HF2.out.elim fun fr h => lit_reads (xs := [97, 98, 99]) (by simp) h) (by omega) (by omega)).mono ?_
       rintro e w3 ⟨v3, xs3, A3, c3, rfl, hn3, hp3, hc3, hg3⟩
       have HN3 := Aside0.mk hn3
       have HP3 := Aside0.mk hp3
       have HC3 := Aside0.mk hc3
       have HG3 := Aside0.mk hg3
       clear hn3 hp3 hc3 hg3))
  have HBW := Aside0.mk (below_trans (show Below w.heap.size w w1 from HB1.out) ⟨HB2.out.os, HB2.out.tape, HB2.out.output, HB2.out.size, fun i hi => HB2.out.block i (Nat.lt_of_lt_of_le hi HB1.out.size)⟩)
  have HBX := Aside0.mk (show Below w.heap.size w w3 from ⟨HG3.out.os.trans HBW.out.os, HG3.out.tape.trans HBW.out.tape, HG3.out.output.trans HBW.out.output, Nat.le_trans HBW.out.size HG3.out.size, fun i hi => (HG3.out.block i (Nat.lt_of_lt_of_le hi HBW.out.size) (fun e => by injection e with e; have := HG0.out; omega)).trans (HBW.out.block i hi)⟩)
  go_upto_region 6 with (go_at_call 19; refine (left_calls g 2 _ A3 c3 [99] _ HC3.out).mono ?_; rintro e w' ⟨rfl, hww⟩; replace hww := hww.symm; subst hww)
  go_upto_region 7 with (first
    | (refine wpList_mark (.tmp 24) (by simp [Region.wanted]) rfl _ 2 2 #[.int .u8 100, .int .u8 101] rfl (heap_alloc_new _ _) ?_
       intro w4 hg4 hf4
       have HB4 := Aside0.mk (pw_below_grown (below_alloc (Below.refl w3.heap.size w3) (.cells #[.int .u8 100, .int .u8 101] 5)) (some w3.heap.size) (below_alloc (Below.refl w3.heap.size w3) _).size hg4 (fun k e => by injection e with e; omega))
       have HF4 := Aside0.mk hf4
       clear hg4 hf4)
    | (go_at_call 14
       refine (write_head g _ A3 c3 [99] _ 2 2 [100, 101] 99 100 101 w4 rfl (HC3.out.below HB4.out) (HF4.out.elim fun fr h => lit_reads (xs := [100, 101]) (by simp) h) (by omega) (by omega)).mono ?_
       rintro e w5 ⟨v5, xs5, A5, c5, rfl, hn5, hp5, hc5, hg5⟩
       have HN5 := Aside0.mk hn5
       have HP5 := Aside0.mk hp5
       have HC5 := Aside0.mk hc5
       have HG5 := Aside0.mk hg5
       have HP3' := Aside0.mk ((HP3.out.below HB4.out).cut (HC3.out.below HB4.out) hg5)
       clear hn5 hp5 hc5 hg5))
  go_upto_region 8 with (go_at_call 12; refine (rest_calls g 2 _ A5 c5 [101] _ HC5.out).mono ?_; rintro e w6 ⟨rfl, hc6, hg6, hl6⟩; have HC6 := Aside0.mk hc6; have HG6 := Aside0.mk hg6; have HL6 := Aside0.mk hl6; have HP3'' := Aside0.mk (HP3'.out.cut HC5.out hg6); have HP5' := Aside0.mk (HP5.out.cut HC5.out hg6); clear hc6 hg6 hl6)
  have HB6 := Aside0.mk (show Below w.heap.size w w6 from by
    have h4 := HB4.out
    have h5 := HG5.out
    have h6 := HG6.out
    have hx := HBX.out
    have hg := HG0.out
    refine ⟨h6.os.trans (h5.os.trans (h4.os.trans hx.os)), h6.tape.trans (h5.tape.trans (h4.tape.trans hx.tape)), h6.output.trans (h5.output.trans (h4.output.trans hx.output)), Nat.le_trans hx.size (Nat.le_trans h4.size (Nat.le_trans h5.size h6.size)), fun i hi => ?_⟩
    have i3 : i < w3.heap.size := Nat.lt_of_lt_of_le hi hx.size
    have i4 : i < w4.heap.size := Nat.lt_of_lt_of_le i3 h4.size
    have i5 : i < w5.heap.size := Nat.lt_of_lt_of_le i4 h5.size
    rw [h6.block i i5 (fun e => by injection e with e; omega), h5.block i i4 (fun e => by injection e with e; omega), h4.block i i3, hx.block i hi])
  obtain ⟨P3, d3, rfl, hR3⟩ := pieces1 HP3''.out HN3.out
  obtain ⟨P5, d5, rfl, hR5⟩ := pieces1 HP5'.out HN5.out
  have HR3 := Aside0.mk hR3
  have HR5 := Aside0.mk hR5
  clear hR3 hR5
  have HRR := Aside0.mk (HL6.out.reads (by simp))
  clear HP3 HP5 HP3' HP3'' HP5' HC1 HC3 HC5 HB1 HBW HBX HB2 HB4 HG3 HG5 HG6 HL6 HF2 HF4 HN3 HN5
  go_wp2_with (first
    | (refine wpList_mark (.tmp 30) (by simp [Region.wanted, yielded]) rfl _ 2 2 #[.int .u8 97, .int .u8 98] rfl (heap_alloc_new _ _) ?_
       intro w7 hg7 hf7
       have HB7 := Aside0.mk (pw_below_grown (below_alloc (Below.refl w6.heap.size w6) (.cells #[.int .u8 97, .int .u8 98] 5)) (some w6.heap.size) (below_alloc (Below.refl w6.heap.size w6) _).size hg7 (fun k e => by injection e with e; omega))
       have HF7 := Aside0.mk hf7
       clear hg7 hf7)
    | (refine wpList_mark (.tmp 40) (by simp [Region.wanted, yielded]) rfl _ 2 2 #[.int .u8 99, .int .u8 100] rfl (heap_alloc_new _ _) ?_
       intro w9 hg9 hf9
       have HB9 := Aside0.mk (pw_below_grown (below_alloc (Below.refl w8.heap.size w8) (.cells #[.int .u8 99, .int .u8 100] 5)) (some w8.heap.size) (below_alloc (Below.refl w8.heap.size w8) _).size hg9 (fun k e => by injection e with e; omega))
       have HF9 := Aside0.mk hf9
       have HB69 := Aside0.mk (below_then HB68.out HB68.out.size HB9.out)
       clear hg9 hf9)
    | (go_at_call 16
       refine (same_calls [[99, 100]] P5 d5 (some ⟨w9.heap.size, 0, none⟩) 1 (w9.alloc (.cells #[.slice (some ⟨w8.heap.size, 0, none⟩) 2 2] 29)) (Kd.C_below (Kd.C_below HR5.out HB69.out) (below_alloc (Below.refl _ _) _)) (HF9.out.elim fun fr h => lit_rows (heap_alloc_new w9 _) ((Below.heap_alloc _ _ _ (lt_heap h)).trans h))).mono ?_
       rintro e w10 ⟨rfl, hb10⟩
       have HB610 := Aside0.mk (below_then HB69.out HB69.out.size (below_then (below_alloc (Below.refl _ _) (.cells #[.slice (some ⟨w8.heap.size, 0, none⟩) 2 2] 29)) (below_alloc (Below.refl w9.heap.size w9) _).size hb10))
       have hc := conv_e (HRR.out.below HB610.out) c5
       have HC10 := Aside0.mk (HC6.out.below HB610.out)
       clear hb10)
    | (go_at_call 16
       refine (same_calls [[97, 98]] P3 d3 (some ⟨w7.heap.size, 0, none⟩) 1 (w7.alloc (.cells #[.slice (some ⟨w6.heap.size, 0, none⟩) 2 2] 29)) (Kd.C_below (Kd.C_below HR3.out HB7.out) (below_alloc (Below.refl _ _) _)) (HF7.out.elim fun fr h => lit_rows (heap_alloc_new w7 _) ((Below.heap_alloc _ _ _ (lt_heap h)).trans h))).mono ?_
       rintro e w8 ⟨rfl, hb8⟩
       have HB68 := Aside0.mk (below_then HB7.out HB7.out.size (below_then (below_alloc (Below.refl _ _) (.cells #[.slice (some ⟨w6.heap.size, 0, none⟩) 2 2] 29)) (below_alloc (Below.refl w7.heap.size w7) _).size hb8))
       clear hb8)
    | (go_at_call 19; refine (left_calls g 2 _ none 0 [] _ HC10.out).mono ?_; rintro e w' ⟨rfl, hww⟩; replace hww := hww.symm; subst hww)
    | (go_at_call 17; refine (size_calls g 2 _ none 0 [] _ HC10.out).mono ?_; rintro e w' ⟨rfl, hww⟩; replace hww := hww.symm; subst hww)
    | (go_at_call 12; refine (rest_calls g 2 _ none 0 [] _ HC10.out).mono ?_; rintro e w11 ⟨rfl, -, hg11, -⟩; have HG11 := Aside0.mk hg11; clear hg11))
  go_ret
  refine ⟨rfl, ?_⟩
  have h6 := HB6.out
  have h10 := HB610.out
  have h11 := HG11.out
  have hg := HG0.out
  exact ⟨h11.os.trans (h10.os.trans h6.os), h11.tape.trans (h10.tape.trans h6.tape), h11.output.trans (h10.output.trans h6.output), Nat.le_trans h6.size (Nat.le_trans h10.size h11.size), fun i hi => by
    have i6 : i < w6.heap.size := Nat.lt_of_lt_of_le hi h6.size
    rw [h11.block i (Nat.lt_of_lt_of_le i6 h10.size) (fun e => by injection e with e; omega), h10.block i i6, h6.block i hi]⟩
end Go.Proofs.Ytoaokmlpeijepaa
