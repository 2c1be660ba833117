/-
  Layer 4: all kinds.
-/
import Derived.Test.YtemnhgmgffdncaaFine
import Derived.Test.YtemnhgmgffdncaaDraw
import Derived.MapKept
import Derived.Carry
namespace Go.Proofs.Ytemnhgmgffdncaa
set_option linter.unusedVariables false
set_option linter.unusedSimpArgs false
open Go.RowKit Go.Proofs.YtemnhgmgffdncaaW.PrintWords Go.Proofs.YtemnhgmgffdncaaW.PrintMore
open Go.MapKept (run_checkKey run_findKey run_setObj_map)
attribute [local go_sem] max2_int run_makeMap
theorem und47 : Try.prog.underlying 47 = some (.map 3 45) := by kernel_rfl
theorem und3 : Try.prog.underlying 3 = some (.int .i64) := by kernel_rfl
def entI (k : Int) (v : Value) (b : Nat) : MapEntry := { key := .int .i64 k, val := v, born := b }
theorem run_ins (w : World) (es : Array MapEntry) (clock : Nat) (k : Int) (v : Value) (h : Instr.findNow (.int .i64) (.int .i64 k) es.toList 0 = some none) :
    (Instr.mapUpdate 47 (.map (some w.heap.size)) (.int .i64 k) v).run Try.prog (w.alloc (.map es clock)) = .ok () (w.alloc (.map (es.push (entI k v clock)) (clock + 1))) := by
  have hb := heap_alloc_new w (.map es clock)
  unfold Instr.mapUpdate
  simp only [Sem.run_bind, run_underlying und47, Result.andThen_ok, Go.MapKept.run_getObj_map hb, run_checkKey und3 (k := .int .i64 k) rfl, run_findKey und3 h, run_setObj_map _ hb, Sem.run_pure]
  have e : (w.alloc (.map es clock)).heap = w.heap.push (.map es clock) := rfl
  have e2 : (w.alloc (.map (es.push (entI k v clock)) (clock + 1))).heap = w.heap.push (.map (es.push (entI k v clock)) (clock + 1)) := rfl
  have e3 : (w.heap.push (.map es clock)).setIfInBounds w.heap.size (.map (es.push (entI k v clock)) (clock + 1)) = w.heap.push (.map (es.push (entI k v clock)) (clock + 1)) := by
    apply Array.ext_getElem?
    intro i
    rw [Array.getElem?_setIfInBounds]
    by_cases hi : w.heap.size = i
    · subst hi; simp
    · rw [if_neg hi, Array.getElem?_push, Array.getElem?_push]; rw [if_neg (fun e => hi e.symm), if_neg (fun e => hi e.symm)]
  show Result.ok () { (w.alloc (.map es clock)) with heap := (w.heap.push (.map es clock)).setIfInBounds w.heap.size (.map (es.push (entI k v clock)) (clock + 1)) } = _
  rw [e3]
  rfl
theorem ins1 (w : World) (v : Value) : (Instr.mapUpdate 47 (.map (some w.heap.size)) (.int .i64 1) v).run Try.prog (w.alloc (.map #[] 0)) = .ok () (w.alloc (.map #[entI 1 v 0] 1)) := run_ins w #[] 0 1 v rfl
theorem ins2 (w : World) (v u : Value) : (Instr.mapUpdate 47 (.map (some w.heap.size)) (.int .i64 2) v).run Try.prog (w.alloc (.map #[entI 1 u 0] 1)) = .ok () (w.alloc (.map #[entI 1 u 0, entI 2 v 1] 2)) := run_ins w #[entI 1 u 0] 1 2 v rfl
theorem ins3 (w : World) (v u u2 : Value) : (Instr.mapUpdate 47 (.map (some w.heap.size)) (.int .i64 3) v).run Try.prog (w.alloc (.map #[entI 1 u 0, entI 2 u2 1] 2)) = .ok () (w.alloc (.map #[entI 1 u 0, entI 2 u2 1, entI 3 v 2] 3)) := run_ins w #[entI 1 u 0, entI 2 u2 1] 2 3 v rfl
theorem ins4 (w : World) (v u u2 u3 : Value) : (Instr.mapUpdate 47 (.map (some w.heap.size)) (.int .i64 4) v).run Try.prog (w.alloc (.map #[entI 1 u 0, entI 2 u2 1, entI 3 u3 2] 3)) = .ok () (w.alloc (.map #[entI 1 u 0, entI 2 u2 1, entI 3 u3 2, entI 4 v 3] 4)) := run_ins w #[entI 1 u 0, entI 2 u2 1, entI 3 u3 2] 3 4 v rfl
attribute [local go_sem] ins1 ins2 ins3 ins4
/-- A kind's functions. -/
def kindV (n : Nat) : Array Value := #[.func (.func (22 + 4 * n)) #[] #[], .func (.func (22 + 4 * n + 1)) #[] #[], .func (.func (22 + 4 * n + 2)) #[] #[], .func (.func (22 + 4 * n + 3)) #[] #[]]
def noKind : Array Value := #[.nilFunc, .nilFunc, .nilFunc, .nilFunc]
def KindsAt (w : World) (m : Nat) : Prop := w.heap[m]? = some (.map #[entI 1 (.agg (kindV 1)) 0, entI 2 (.agg (kindV 2)) 1, entI 3 (.agg (kindV 3)) 2, entI 4 (.agg (kindV 4)) 3] 4)
set_option maxRecDepth 100000 in
theorem kinds_new (w : World) : Calls Try.prog 20 #[] w fun e w' => ∃ m, e = .returned (.map (some m)) ∧ w.heap.size ≤ m ∧ KindsAt w' m ∧ GrowsN 45 w w' := by
  go_enter Try.func20, Try.ntmps20
  go_wp2
  go_ret
  refine ⟨_, rfl, Nat.le_refl _, heap_alloc_new w _, (Below.refl _ _).alloc (Nat.le_refl _) _, fun k cs hk e => ?_⟩
  have hs := lt_heap e
  rw [show (w.alloc _).heap.size = w.heap.size + 1 by show (w.heap.push _).size = _; simp] at hs
  obtain rfl : k = w.heap.size := by omega
  rw [heap_alloc_new] at e
  cases e
theorem kinds_calls (w : World) : Calls Try.prog 20 #[] w fun e w' => ∃ m, e = .returned (.map (some m)) ∧ KindsAt w' m ∧ GrowsN 45 w w' := (kinds_new w).mono fun e w' h => h.elim fun m h => ⟨m, h.1, h.2.2⟩
/-- What is found of a kind. -/
def kindAt (k : Int) : Array Value × Bool := if k = 1 then (kindV 1, true) else if k = 2 then (kindV 2, true) else if k = 3 then (kindV 3, true) else if k = 4 then (kindV 4, true) else (noKind, false)
theorem zero45 (w : World) : (zeroValue 45).run Try.prog w = .ok (.agg noKind) w := by
  go_simp; rfl
theorem run_look (w : World) (m : Nat) (k : Int) (h : KindsAt w m) : (Instr.lookup 47 (.map (some m)) (.int .i64 k) true).run Try.prog w = .ok (.tuple #[.agg (kindAt k).1, .bool (kindAt k).2]) w := by
  unfold Instr.lookup
  by_cases h1 : k = 1
  · subst h1
    simp only [Sem.run_bind, run_underlying und47, Result.andThen_ok, Go.MapKept.run_getObj_map h, run_checkKey und3 (k := .int .i64 1) rfl, run_findKey und3 (show Instr.findNow (.int .i64) (.int .i64 1) (#[entI 1 (.agg (kindV 1)) 0, entI 2 (.agg (kindV 2)) 1, entI 3 (.agg (kindV 3)) 2, entI 4 (.agg (kindV 4)) 3] : Array MapEntry).toList 0 = some (some (0, .agg (kindV 1))) from rfl), Sem.run_pure]
    rfl
  · by_cases h2 : k = 2
    · subst h2
      simp only [Sem.run_bind, run_underlying und47, Result.andThen_ok, Go.MapKept.run_getObj_map h, run_checkKey und3 (k := .int .i64 2) rfl, run_findKey und3 (show Instr.findNow (.int .i64) (.int .i64 2) (#[entI 1 (.agg (kindV 1)) 0, entI 2 (.agg (kindV 2)) 1, entI 3 (.agg (kindV 3)) 2, entI 4 (.agg (kindV 4)) 3] : Array MapEntry).toList 0 = some (some (1, .agg (kindV 2))) from rfl), Sem.run_pure]
      rfl
    · by_cases h3 : k = 3
      · subst h3
        simp only [Sem.run_bind, run_underlying und47, Result.andThen_ok, Go.MapKept.run_getObj_map h, run_checkKey und3 (k := .int .i64 3) rfl, run_findKey und3 (show Instr.findNow (.int .i64) (.int .i64 3) (#[entI 1 (.agg (kindV 1)) 0, entI 2 (.agg (kindV 2)) 1, entI 3 (.agg (kindV 3)) 2, entI 4 (.agg (kindV 4)) 3] : Array MapEntry).toList 0 = some (some (2, .agg (kindV 3))) from rfl), Sem.run_pure]
        rfl
      · by_cases h4 : k = 4
        · subst h4
          simp only [Sem.run_bind, run_underlying und47, Result.andThen_ok, Go.MapKept.run_getObj_map h, run_checkKey und3 (k := .int .i64 4) rfl, run_findKey und3 (show Instr.findNow (.int .i64) (.int .i64 4) (#[entI 1 (.agg (kindV 1)) 0, entI 2 (.agg (kindV 2)) 1, entI 3 (.agg (kindV 3)) 2, entI 4 (.agg (kindV 4)) 3] : Array MapEntry).toList 0 = some (some (3, .agg (kindV 4))) from rfl), Sem.run_pure]
          rfl
        · have hf : Instr.findNow (.int .i64) (.int .i64 k) (#[entI 1 (.agg (kindV 1)) 0, entI 2 (.agg (kindV 2)) 1, entI 3 (.agg (kindV 3)) 2, entI 4 (.agg (kindV 4)) 3] : Array MapEntry).toList 0 = some none := by
            have g1 : (k == 1) = false := beq_eq_false_iff_ne.2 h1
            have g2 : (k == 2) = false := beq_eq_false_iff_ne.2 h2
            have g3 : (k == 3) = false := beq_eq_false_iff_ne.2 h3
            have g4 : (k == 4) = false := beq_eq_false_iff_ne.2 h4
            simp [Instr.findNow, Instr.sameNow, entI, g1, g2, g3, g4]
          simp only [Sem.run_bind, run_underlying und47, Result.andThen_ok, Go.MapKept.run_getObj_map h, run_checkKey und3 (k := .int .i64 k) rfl, run_findKey und3 hf, Sem.run_pure, zero45]
          unfold kindAt
          rw [if_neg h1, if_neg h2, if_neg h3, if_neg h4]
          rfl
theorem run_look0 (w : World) (m : Nat) (k : Int) (h : KindsAt w m) (hk : (kindAt k).2 = true) : (Instr.lookup 47 (.map (some m)) (.int .i64 k) false).run Try.prog w = .ok (.agg (kindAt k).1) w := by
  unfold Instr.lookup
  by_cases h1 : k = 1
  · subst h1
    simp only [Sem.run_bind, run_underlying und47, Result.andThen_ok, Go.MapKept.run_getObj_map h, run_checkKey und3 (k := .int .i64 1) rfl, run_findKey und3 (show Instr.findNow (.int .i64) (.int .i64 1) (#[entI 1 (.agg (kindV 1)) 0, entI 2 (.agg (kindV 2)) 1, entI 3 (.agg (kindV 3)) 2, entI 4 (.agg (kindV 4)) 3] : Array MapEntry).toList 0 = some (some (0, .agg (kindV 1))) from rfl), Sem.run_pure]
    rfl
  · by_cases h2 : k = 2
    · subst h2
      simp only [Sem.run_bind, run_underlying und47, Result.andThen_ok, Go.MapKept.run_getObj_map h, run_checkKey und3 (k := .int .i64 2) rfl, run_findKey und3 (show Instr.findNow (.int .i64) (.int .i64 2) (#[entI 1 (.agg (kindV 1)) 0, entI 2 (.agg (kindV 2)) 1, entI 3 (.agg (kindV 3)) 2, entI 4 (.agg (kindV 4)) 3] : Array MapEntry).toList 0 = some (some (1, .agg (kindV 2))) from rfl), Sem.run_pure]
      rfl
    · by_cases h3 : k = 3
      · subst h3
        simp only [Sem.run_bind, run_underlying und47, Result.andThen_ok, Go.MapKept.run_getObj_map h, run_checkKey und3 (k := .int .i64 3) rfl, run_findKey und3 (show Instr.findNow (.int .i64) (.int .i64 3) (#[entI 1 (.agg (kindV 1)) 0, entI 2 (.agg (kindV 2)) 1, entI 3 (.agg (kindV 3)) 2, entI 4 (.agg (kindV 4)) 3] : Array MapEntry).toList 0 = some (some (2, .agg (kindV 3))) from rfl), Sem.run_pure]
        rfl
      · by_cases h4 : k = 4
        · subst h4
          simp only [Sem.run_bind, run_underlying und47, Result.andThen_ok, Go.MapKept.run_getObj_map h, run_checkKey und3 (k := .int .i64 4) rfl, run_findKey und3 (show Instr.findNow (.int .i64) (.int .i64 4) (#[entI 1 (.agg (kindV 1)) 0, entI 2 (.agg (kindV 2)) 1, entI 3 (.agg (kindV 3)) 2, entI 4 (.agg (kindV 4)) 3] : Array MapEntry).toList 0 = some (some (3, .agg (kindV 4))) from rfl), Sem.run_pure]
          rfl
        · unfold kindAt at hk; rw [if_neg h1, if_neg h2, if_neg h3, if_neg h4] at hk; cases hk
end Go.Proofs.Ytemnhgmgffdncaa
