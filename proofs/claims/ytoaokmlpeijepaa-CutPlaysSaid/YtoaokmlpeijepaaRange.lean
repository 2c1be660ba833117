/-
  A range over a function that writes one block of its receiver between two rounds: one walk.
-/
import Derived.Test.YtoaokmlpeijepaaProg
import Derived.Test.YtoaokmlpeijepaaWWords
import Derived.RangeFuncNested
import Derived.Deep.AppendLies
namespace Go.Proofs.Ytoaokmlpeijepaa
set_option linter.unusedVariables false
set_option linter.unusedSimpArgs false
open Go.RowKit Go.Proofs.YtoaokmlpeijepaaW.PrintWords

section
variable {P : Program} {F : Fence} {n : Nat}
/-- What is asked of the function that is ranged over: each round finds what is told of its value, and the caller's invariant is kept by steps that turn block gc alone. -/
def SeqW {α : Type} (F : Fence) (n : Nat) (P : Program) (gf : Nat) (lb : Array Value) (gc : Nat) (encs : α → Array Value) (Fx : α → World → Prop) (Kp : World → World → Prop) (S : List α → World → Prop) (N : Nat) (w : World) : Prop :=
  ∀ (l : Nat) (J : List α → World → Prop) (W : World), Below w.heap.size w W → (∀ s A B, J s A → A.grownBy B (some gc) → J s B) →
    (∀ pre x W1, J pre W1 → Fx x W1 → pre.length < N → YieldAt F (n - 1) P l (encs x) W1 fun e W' => e = .returned (.bool true) ∧ J (pre ++ [x]) W' ∧ Kp W1 W') →
    J [] W → CallsIn F n P gf (#[.func (.yield l) #[] #[]] ++ lb) W fun e W' => (∃ v, e = .returned v) ∧ ∃ xs, S xs W' ∧ J xs W'

theorem range_writes {α : Type} {g : Operand} {ps : Array Tmp} {assign body : Code} {Q : Exit → Act → World → Prop} {a : Act} {w : World}
    (hro : F.round = none) (h1 : 1 ≤ n) {gf : Nat} {lb : Array Value} (hg : a.eval g = .func (.func gf) #[] lb) (hFg : F.fn gf) (eg : ∀ args w, (callFunc gf args).run P w = .ok (.enter gf args) w)
    {gc : Nat} (hgc : gc < w.heap.size) {encs : α → Array Value} (hps : ∀ x, (encs x).size = ps.size) {Fx : α → World → Prop} {Kp : World → World → Prop} {S : List α → World → Prop} {N : Nat}
    (hseq : SeqW F (n - 1) P gf lb gc encs Fx Kp S N w)
    (hKt : ∀ {A B C : World}, Kp A B → Kp B C → Kp A C) (hKb : ∀ (W : World) (l : Nat) (o o' : Obj), W.heap[l]? = some o → o.isCells = false → Kp W (W.putObj l o'))
    (hFx : ∀ x W l o o', Fx x W → W.heap[l]? = some o → o.isCells = false → Fx x (W.putObj l o')) (hS : ∀ xs W l o o', S xs W → W.heap[l]? = some o → o.isCells = false → S xs (W.putObj l o'))
    (I : List α → World → Prop) (hI : ∀ s A B row, I s A → A.grownBy B row → (∀ r, row = some r → r = gc ∨ (w.heap.size ≤ r ∧ ∃ o : Obj, A.heap[r]? = some o ∧ o.isCells = false)) → I s B) (h0 : I [] w) (a₁ : α → Act)
    (hassign : ∀ (l : Nat) (x : α) (W : World) (K : Act → World → Prop), K (a₁ x) W →
      assign.wpIn (F.inRound l) (n - 1 - 1) P (Exit.then K (fun _ _ _ => False)) { tmps := (ps.zip (encs x)).foldl (fun t (p, v) => t.setIfInBounds p v) a.tmps, defers := [] } W)
    (hbody : ∀ (l : Nat) (pre : List α) (x : α) (W : World), I pre W → Fx x W → pre.length < N → body.wpIn (F.inRound l) (n - 1 - 1) P (Exit.then (fun _ W' => KeepsFrom w.heap.size W W' ∧ Kp W W' ∧ I (pre ++ [x]) W') (fun _ _ _ => False)) (a₁ x) W)
    (hdone : ∀ (D : Nat) (xs : List α) (W : World), w.heap.size ≤ D → S xs W → I xs W → W.heap[D]? = some (.deferred (some [])) → Q .normal { a with defers := { target := .collected D, args := #[] } :: a.defers } W) :
    (Code.rangeFunc g ps assign body).wpIn F n P Q a w := by
  refine wpIn_rangeFunc fun fn hfn => ?_
  rw [hro]
  generalize hr : (fun st : LoopState => ({ state := st, pending := none, fn, tmps := a.tmps, params := ps, assign, body, defers := w.heap.size } : Loop)) = rec
  have hr' : ∀ st, rec st = { state := st, pending := none, fn, tmps := a.tmps, params := ps, assign, body, defers := w.heap.size } := fun st => by rw [← hr]
  generalize hW : (w.alloc (.deferred (some []))).alloc (.loop (rec .ready)) = W1
  have hL : W1.heap[w.heap.size + 1]? = some (.loop (rec .ready)) := by
    rw [← hW]
    have := heap_alloc_new (w.alloc (.deferred (some []))) (.loop (rec .ready))
    rwa [World.size_alloc] at this
  have hD : W1.heap[w.heap.size]? = some (.deferred (some [])) := by
    rw [← hW, Below.heap_alloc _ _ _ (by simp)]
    exact heap_alloc_new w _
  have hB : Below w.heap.size w W1 := by rw [← hW]; exact ((Below.refl _ w).alloc (Nat.le_refl _) _).alloc (by simp) _
  have hI1 : I [] W1 := hI [] w W1 none h0 (grown_of_below hB none) (fun r e => by cases e)
  refine ⟨w.heap.size + 1, [{ target := .collected w.heap.size, args := #[] }], W1, { target := .fn (.func gf) lb, args := #[.func (.yield (w.heap.size + 1)) #[] #[]] }, W1, gf,
    #[.func (.yield (w.heap.size + 1)) #[] #[]] ++ lb, W1, ?_, ?_, ?_, ?_, fun _ => h1, ?_⟩
  · rw [run_enterLoop_outer, ← hW, hr']
  · simp only [resolve, hg]; simp [go_sem]
  · intro f' hf'; simp [Target.leads] at hf'; subst hf'; exact hFg
  · simp [invoke, go_sem, eg]
  have step := hseq (w.heap.size + 1) (fun pre W => I pre W ∧ W.heap[w.heap.size + 1]? = some (.loop (rec .ready)) ∧ W.heap[w.heap.size]? = some (.deferred (some []))) W1 hB
    (fun s A B hs hg => ⟨hI s A B _ hs.1 hg (fun r e => by injection e with e; exact .inl e.symm),
      (hg.block _ (Array.getElem?_eq_some_iff.1 hs.2.1).1 (fun e => by injection e with e; omega)).trans hs.2.1,
      (hg.block _ (Array.getElem?_eq_some_iff.1 hs.2.2).1 (fun e => by injection e with e; omega)).trans hs.2.2⟩)
    ?_ ⟨hI1, hL, hD⟩
  · refine step.mono ?_
    rintro e W2 ⟨⟨v, rfl⟩, xs, hSx, hi, hl, hd⟩
    have hend := run_endLoop (P := P) hl (by rw [hr']; simp)
    refine ⟨none, _, by rw [hend, hr'], hdone w.heap.size xs _ (Nat.le_refl _) (hS xs _ _ _ _ hSx hl rfl) ?_ ((World.putObj_heap_other (by omega)).trans hd)⟩
    exact hI xs W2 _ _ hi (grownBy_putObj' W2 _ _) (fun r e => by injection e with e; subst e; exact .inr ⟨by omega, _, hl, rfl⟩)
  · rintro pre x W ⟨hi, hl, hd⟩ hfx hN
    have hlt : w.heap.size + 1 < W.heap.size := (Array.getElem?_eq_some_iff.1 hl).1
    have hy := run_yield (P := P) (args := encs x) hl (by rw [hr']; exact hps x)
    rw [hr'] at hy
    refine ⟨fn, _, assign, body, hy, roundIn_of_wpIn hfn (hassign _ x W _ ⟨_, run_beginRound hl (by rw [hr']), ?_⟩)⟩
    generalize hbz : ({ rec .ready with state := .busy } : Loop) = bz
    have hbz' : bz = rec .busy := by rw [← hbz, hr', hr']
    have hl2 : (W.putObj (w.heap.size + 1) (.loop bz)).heap[w.heap.size + 1]? = some (.loop bz) := World.putObj_heap_same hlt
    have hd2 : (W.putObj (w.heap.size + 1) (.loop bz)).heap[w.heap.size]? = some (.deferred (some [])) := (World.putObj_heap_other (by omega)).trans hd
    have hi2 : I pre (W.putObj (w.heap.size + 1) (.loop bz)) := hI pre W _ _ hi (grownBy_putObj' W _ _) (fun r e => by injection e with e; subst e; exact .inr ⟨by omega, _, hl, rfl⟩)
    refine wpIn_mono (hbody _ pre x _ hi2 (hFx x W _ _ _ hfx hl rfl) hN) ?_
    rintro e a3 W3 hp
    cases e with
    | normal =>
      obtain ⟨hk3, hkp, hi3⟩ := hp
      have hl3 := hk3.same _ _ (by omega) hl2 rfl
      have hd3 := hk3.same _ _ (Nat.le_refl _) hd2 rfl
      have hend := run_endRound (P := P) none hl3
      have hrd : ({ bz with state := if (none : Option Code).isNone then .ready else .done, pending := none } : Loop) = rec .ready := by rw [hbz', hr', hr']; rfl
      rw [hrd] at hend
      refine ⟨_, _, hend, rfl, ⟨?_, World.putObj_heap_same (Array.getElem?_eq_some_iff.1 hl3).1, (World.putObj_heap_other (by omega)).trans hd3⟩, ?_⟩
      · exact hI _ W3 _ _ hi3 (grownBy_putObj' W3 _ _) (fun r e => by injection e with e; subst e; exact .inr ⟨by omega, _, hl3, rfl⟩)
      · exact hKt (hKt (hKb W _ _ _ hl rfl) hkp) (hKb W3 _ _ _ hl3 rfl)
    | ret => exact hp.elim
    | exit id => exact hp.elim
    | goto t => exact hp.elim
    | panic ch => exact hp.elim
    | outgrown => exact hp.elim
end
end Go.Proofs.Ytoaokmlpeijepaa
