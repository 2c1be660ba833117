/-
  slices.Clone, Grow, Concat, of bytes.
-/
import Derived.Test.YtoaokmlpeijepaaAppend
import Derived.Test.YtoaokmlpeijepaaWZeros
import Derived.RegionTactic
import Derived.Deep.LoopGhost
import Derived.IntWalk
import Derived.Lib.LazyBuf
namespace Go.Proofs.Ytoaokmlpeijepaa
set_option linter.unusedVariables false
set_option linter.unusedSimpArgs false
open Go.RowKit Go.Proofs.YtoaokmlpeijepaaW.PrintWords

theorem below_trans {B : Nat} {w W w1 : World} (h : Below B w W) (k : Below B W w1) : Below B w w1 :=
  ⟨k.os.trans h.os, k.tape.trans h.tape, k.output.trans h.output, Nat.le_trans h.size k.size, fun i hi => (k.block i hi).trans (h.block i hi)⟩
theorem own_zero {W : World} {B n : Nat} {v : Value} {xs : List Value} (h : W.ownsRow B 5 1 v n xs) (hn : 0 < n) : ∃ g cap, v = .slice (some ⟨g, 0, none⟩) n cap ∧ n ≤ cap ∧ W.ownsRow B 5 1 (.slice (some ⟨g, 0, none⟩) 0 cap) 0 [] := by
  rcases h.2 with ⟨_, h0⟩ | ⟨g, cap, cur, rfl, h1, h2, h3, h4, h5, h6⟩
  · omega
  · exact ⟨g, cap, rfl, h3, rfl, .inr ⟨g, cap, cur, rfl, h1, h2, Nat.zero_le _, h4, h5, by simp⟩⟩
theorem wpList_zeros {ops : Array Oper} {rest : List Oper} {o : Oper} {a : Act} {W : World} {Q : Exit → Act → World → Prop} (s x : Operand) (hgd : o.guard = none)
    (ho : o.op = .call { callee := .builtin .append, args := #[s, x], argTypes := #[29, 3] }) (n : Nat) (hs : a.eval s = .slice none 0 0) (hx : a.eval x = .int .i64 n) (hn : 0 < n) (hl : n ≤ 140737488355328)
    (h : ∀ g cap w1, n ≤ cap → w1.ownsRow W.heap.size 5 1 (.slice (some ⟨g, 0, none⟩) 0 cap) 0 [] → Below W.heap.size W w1 → wpList Try.prog ops Q rest (a.put o.dst (.slice (some ⟨g, 0, none⟩) n cap)) w1) : wpList Try.prog ops Q (o :: rest) a W := by
  obtain ⟨i0, hi, hz0, hz1, hz2⟩ := parts3 info5'
  obtain ⟨v1, w1, hr, h2, h3, _⟩ := run_append_zeros (P := Try.prog) W W.heap.size 29 3 o.type 5 i0 (.int .u8 0) 1 1 Try.underlying29 Try.underlying3 hi hz0 hz1 hz2 rfl (by omega) (by omega) (.slice none 0 0) 0 [] (own_nil _ _ _ _) .i64 n
    (by intro u hu; rw [show (Builtin.zeroCells (Value.int .u8 0).cells n).toList = List.replicate n (.int .u8 0) from by rw [← toList_madeCells_one (.int .u8 0) n]; simp [Builtin.zeroCells, madeCells, Value.cells]] at hu; rw [(List.mem_replicate.1 hu).2]; rfl) (by omega) (Nat.le_refl _)
  obtain ⟨g, cap, rfl, hc, hz⟩ := own_zero h2 (by omega)
  refine wpList_plain hgd fun K hK => ?_
  unfold Oper.wp execOp
  simp only [ho, resolve, invoke, builtin, Sem.run_bind, Sem.run_pure, Result.andThen_ok, List.map_toArray, List.map_cons, List.map_nil, hs, hx, hr]
  have := h g cap w1 (by omega) hz ((Below.refl _ W).grown h3 (Nat.le_refl _) (fun k hk => by cases hk))
  rw [Nat.zero_add]
  exact hK _ _ this

set_option maxRecDepth 100000 in
set_option maxHeartbeats 1000000 in
theorem clone_calls (ad : Addr) (n c : Nat) (xs : List Int) (w : World) (hr : ReadsInt w .u8 (some ad) n xs) (hb : n ≤ 140737488355328) :
    Calls Try.prog 25 #[.slice (some ad) n c] w fun e w' => ∃ v, e = .returned v ∧ w'.ownsRow w.heap.size 5 1 v xs.length (nums .u8 xs) ∧ Below w.heap.size w w' := by
  have HR := Aside0.mk hr
  have HB := Aside0.mk hb
  have HN := Aside0.mk hr.1
  clear hr hb
  have q29 : ∀ (w : World) (a : Option Addr) (n c : Nat), (binOp .eql 29 (.slice a n c) (.slice none 0 0)).run Try.prog w = .ok (.bool a.isNone) w := fun w a n c => run_eql_slice_nil w _ _ a n c Try.underlying29
  go_enter Try.func25, Try.ntmps25
  go_wp2_with (refine wpList_bytes w.heap.size (.tmp 5) (.tmp 6) rfl rfl [] xs rfl rfl (World.ownsRow_made w #[] 0 (Nat.le_refl _) (Nat.zero_le _) rfl) (HR.out.below (below_alloc (Below.refl _ _) _)) (below_alloc (Below.refl _ _) _).size (by simpa using HB.out) ?_; intro v1 w1 hown hb1 hg; have HO := Aside0.mk hown; have HB1 := Aside0.mk hb1; clear hown hb1 hg)
  go_ret
  exact ⟨_, rfl, HO.out, ⟨HB1.out.os, HB1.out.tape, HB1.out.output, Nat.le_trans (below_alloc (Below.refl _ w) _).size HB1.out.size, fun i hi => (HB1.out.block i hi).trans (Below.heap_alloc _ _ _ hi)⟩⟩

set_option maxRecDepth 100000 in
set_option maxHeartbeats 1000000 in
theorem grow_calls (n : Nat) (w : World) (hb : n ≤ 140737488355328) :
    Calls Try.prog 23 #[.slice none 0 0, .int .i64 n] w fun e w' => ∃ v, e = .returned v ∧ w'.ownsRow w.heap.size 5 1 v 0 [] ∧ Below w.heap.size w w' := by
  have HB := Aside0.mk hb
  clear hb
  go_enter Try.func23, Try.ntmps23
  have hw0 : wrap64 ((n : Int) - wrap64 (0 - 0)) = (n : Int) := by
    have := HB.out
    rw [IntWalk.wrap64_in (0 - 0) ⟨by omega, by omega⟩, IntWalk.wrap64_in _ ⟨by omega, by omega⟩]; omega
  have hw1 : wrap64 (n : Int) = (n : Int) := by
    have := HB.out
    rw [IntWalk.wrap64_in _ ⟨by omega, by omega⟩]
  have hw2 : wrap64 0 = 0 := by rw [IntWalk.wrap64_in _ ⟨by omega, by omega⟩]
  by_cases h0 : n = 0
  · subst h0
    go_wp2
    go_ret
    exact ⟨_, rfl, own_nil _ _ _ _, Below.refl _ _⟩
  · have hp : (0 : Int) < (n : Int) := by omega
    have hp2 : 0 < n := by omega
    have hd : decide ((n : Int) > 0) = true := by simp; omega
    go_wp2_with (at_builtin; refine wpList_zeros (.tmp 20) (.tmp 21) rfl rfl n rfl (congrArg (Value.int .i64) hw1) hp2 HB.out ?_; intro g cap w1 hcap hown hb1; have HO := Aside0.mk hown; have HB1 := Aside0.mk hb1; clear hown hb1)
    go_ret
    exact ⟨_, rfl, HO.out, HB1.out⟩
/-- A literal of two slices. -/
def Two (w : World) (g : Nat) (A1 : Option Addr) (n1 c1 : Nat) (A2 : Option Addr) (n2 c2 : Nat) : Prop := w.heap[g]? = some (.cells #[.slice A1 n1 c1, .slice A2 n2 c2] 29 (0, 0))

set_option maxRecDepth 100000 in
set_option maxHeartbeats 4000000 in
theorem concat_calls (g : Nat) (A1 : Option Addr) (n1 c1 : Nat) (A2 : Option Addr) (n2 c2 : Nat) (xs ys : List Int) (w : World) (h2 : Two w g A1 n1 c1 A2 n2 c2) (hx : ReadsInt w .u8 A1 n1 xs) (hy : ReadsInt w .u8 A2 n2 ys) (hb : n1 + n2 ≤ 140737488355328) :
    Calls Try.prog 21 #[.slice (some ⟨g, 0, none⟩) 2 2] w fun e w' => ∃ v, e = .returned v ∧ w'.ownsRow w.heap.size 5 1 v (xs ++ ys).length (nums .u8 (xs ++ ys)) ∧ Below w.heap.size w w' := by
  have H2 := Aside0.mk h2
  have HX := Aside0.mk hx
  have HY := Aside0.mk hy
  have HBD := Aside0.mk hb
  have e1 : w.cell? ⟨g, 0, none⟩ = some (.slice A1 n1 c1) := cell_of_row w g 0 _ 29 (0, 0) h2
  have e2 : w.cell? ⟨g, 1, none⟩ = some (.slice A2 n2 c2) := cell_of_row w g 1 _ 29 (0, 0) h2
  have HE1 := Aside0.mk e1
  have HE2 := Aside0.mk e2
  clear h2 hx hy hb
  go_enter Try.func21, Try.ntmps21
  go_wp2
  go_loopg [3, 5, 11] 2 (fun q v3 v5 v11 wr => wr = w ∧ ((q = 2 ∧ v3 = .int .i64 0 ∧ v11 = .int .i64 0) ∨ (q = 1 ∧ v3 = .int .i64 (n1 : Int) ∧ v11 = .int .i64 1) ∨ (q = 0 ∧ v3 = .int .i64 ((n1 + n2 : Nat) : Int) ∧ v11 = .int .i64 2)))
  case atStart => exact ⟨rfl, .inl ⟨rfl, rfl, rfl⟩⟩
  case round =>
    obtain ⟨hww, hrel⟩ := hrel
    replace hww := hww.symm
    subst hww
    obtain ⟨rfl, rfl, rfl⟩ | ⟨rfl, rfl, rfl⟩ | ⟨rfl, rfl, rfl⟩ := hrel
    · have w1 : wrap64 (0 + (n1 : Int)) = (n1 : Int) := by have := HBD.out; rw [IntWalk.wrap64_in _ ⟨by omega, by omega⟩]; omega
      have w1' : wrap64 (n1 : Int) = (n1 : Int) := by have := HBD.out; rw [IntWalk.wrap64_in _ ⟨by omega, by omega⟩]
      have d1 : ¬ ((n1 : Int) < 0) := by omega
      go_wp2
      go_roundg 1
      case measure => omega
      case rel => exact ⟨rfl, .inr (.inl ⟨rfl, by first | rfl | rw [w1] | rw [w1'], by go_num⟩)⟩
    · have w1 : wrap64 ((n1 : Int) + (n2 : Int)) = ((n1 + n2 : Nat) : Int) := by have := HBD.out; rw [IntWalk.wrap64_in _ ⟨by omega, by omega⟩]; omega
      have d1 : ¬ (((n1 + n2 : Nat) : Int) < 0) := by omega
      have d2 : ¬ ((n1 : Int) + (n2 : Int) < 0) := by omega
      go_wp2
      go_roundg 0
      case measure => omega
      case rel => exact ⟨rfl, .inr (.inr ⟨rfl, by first | rfl | rw [w1], by go_num⟩)⟩
    · clear e1 e2
      go_wp2_with (go_at_call 23; refine (grow_calls (n1 + n2) _ HBD.out).mono ?_; rintro e w2 ⟨v2, rfl, hown2, hb2⟩; have HO2 := Aside0.mk hown2; have HB2 := Aside0.mk hb2; clear hown2 hb2)
      go_loopg [6, 8, 27] 2 (fun q v6 v8 v27 wz => Aside0 (Below w.heap.size w wz) ∧ ((q = 2 ∧ v27 = .int .i64 0 ∧ Aside0 (wz.ownsRow w.heap.size 5 1 v6 0 [])) ∨ (q = 1 ∧ v27 = .int .i64 1 ∧ Aside0 (wz.ownsRow w.heap.size 5 1 v6 xs.length (nums .u8 xs))) ∨
        (q = 0 ∧ v27 = .int .i64 2 ∧ Aside0 (wz.ownsRow w.heap.size 5 1 v6 (xs ++ ys).length (nums .u8 (xs ++ ys))))))
      case atStart => exact ⟨HB2, .inl ⟨rfl, rfl, HO2⟩⟩
      case round =>
        obtain ⟨HBZ, ⟨rfl, rfl, HO⟩ | ⟨rfl, rfl, HO⟩ | ⟨rfl, rfl, HO⟩⟩ := hrel
        · have f1 := pw_cell_below HBZ.out HE1.out
          have HRX := Aside0.mk (HX.out.below HBZ.out)
          go_wp2_with (refine wpList_bytes w.heap.size (.tmp 31) (.tmp 32) rfl rfl [] xs rfl rfl HO.out HRX.out HBZ.out.size (by have := HBD.out; simp only [List.length_nil]; omega) ?_; intro v3 w3 hown3 hb3 hg3; have HO3 := Aside0.mk hown3; have HB3 := Aside0.mk (below_trans HBZ.out hb3); clear hown3 hb3 hg3)
          go_roundg 1
          case measure => omega
          case rel => exact ⟨HB3, .inr (.inl ⟨rfl, by go_num, HO3⟩)⟩
        · have f2 := pw_cell_below HBZ.out HE2.out
          have HRY := Aside0.mk (HY.out.below HBZ.out)
          go_wp2_with (refine wpList_bytes w.heap.size (.tmp 31) (.tmp 32) rfl rfl xs ys rfl rfl HO.out HRY.out HBZ.out.size (by have := HBD.out; have := HX.out.1; omega) ?_; intro v3 w3 hown3 hb3 hg3; have HO3 := Aside0.mk hown3; have HB3 := Aside0.mk (below_trans HBZ.out hb3); clear hown3 hb3 hg3)
          go_roundg 0
          case measure => omega
          case rel => exact ⟨HB3, .inr (.inr ⟨rfl, by go_num, HO3⟩)⟩
        · go_wp2
          go_ret
          exact ⟨_, rfl, HO.out, HBZ.out⟩
end Go.Proofs.Ytoaokmlpeijepaa
