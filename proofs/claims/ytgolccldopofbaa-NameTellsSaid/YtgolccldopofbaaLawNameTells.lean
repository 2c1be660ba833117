-- The law NameTells: its row, printed by wip/lawtext.py of this repository.
import Derived.Test.YtgolccldopofbaaRows
import Derived.Test.YtgolccldopofbaaPNameTellsx3
import Derived.Test.YtgolccldopofbaaPureNameTells
import Derived.WalkKit
import Derived.ProofKit
import Derived.OpenShut
import Derived.ShutString
import Derived.ChangeOld
import Derived.Below
import Derived.SizedLaws
import Derived.Deep.Strs
import Derived.Test.YtgolccldopofbaaWSized
namespace Go.Proofs.Ytgolccldopofbaa.nameTells
open Go.ChangeShapes Go.WideShapes Go.ChangeAt Go.RowKit
open Go.ChangeMaps (open_string shut_string)
set_option linter.unusedVariables false
set_option linter.unusedSimpArgs false
theorem own : ownKnob Try.prog.godebug = none := by kernel_rfl
theorem laidOut : laidOutB Try.prog = true := by kernel_rfl
def IsRow (k : IntKind) (w : World) (a : Option Addr) (len cap : Nat) (zs : List Int) : Prop :=
  (a = none ∧ len = 0 ∧ cap = 0 ∧ zs = []) ∨
  ∃ x, a = some x ∧ len ≤ cap ∧ cap ≤ maxLen ∧ zs.length = cap ∧ (∀ i, i < zs.length → w.cell? (x.add i) = some (.int k (zs.getD i 0))) ∧ ∀ n ∈ zs, (Lit.int k n).wf = true
theorem walk (a0 a1 : Int) (a2 : ByteArray) (A3 : Option Addr) (n c3 : Nat) (l3 : List ByteArray) (w : World) (hr : Go.Proofs.YtgolccldopofbaaW.PrintWords.Kd.C Go.Proofs.YtgolccldopofbaaW.PrintWords.Kd.string w A3 n l3) (hc : n ≤ c3) :
    Calls Try.prog 3 #[.int .i64 a0, .int .i64 a1, .string a2, .slice A3 n c3] w fun e w' => e = .returned (.bool true) ∧ Below w.heap.size w w' := by
  have hn : l3.length = n := hr.1
  subst hn
  obtain ⟨k, h⟩ := Pure.NameTells_.NameTells a0 a1 a2 l3 hr.2.1
  refine (PNameTells.souterrainlaw05_NameTells.calls k a0 a1 a2 A3 c3 l3 true w hr hc h).mono ?_
  rintro e w' ⟨rfl, hd⟩
  exact ⟨rfl, hd⟩
set_option maxRecDepth 100000 in
theorem lifted (os : Os) (started : os.Started) (H : Type) (enc : TypeId × Value → H) :
    ReturnsInHanded {} Try.checked os 3 .any (Rows.nameTellsSpec.pre6 enc Try.prog Try.f3 Rows.nameTellsRow.domain false) (Rows.nameTellsSpec.post enc Try.prog Try.f3 false true false false) := by
  refine returnsInHanded_of_change_sized (C := Try.checked) own started (by kernel_rfl) Try.func3
    (ChangeSpec.witness6 (enc := enc) (C := Try.checked) false ⟨#[], #[.int .i64 0, .int .i64 0, .string ByteArray.empty, .slice none 0 0], []⟩ 8 (by kernel_rfl) (by kernel_rfl) (by kernel_rfl) (by kernel_rfl)) ?_
  intro W base args ds gs before hval0 hW hcnd hsz0 _
  have hsz : (DataW.weightsEach Try.prog (Try.f3.params.toList ++ Rows.nameTellsSpec.plain.varTypes Try.prog) (ds ++ gs)).all (· ≤ reachBytes) = true := hsz0
  have hval : ∀ (j : Nat) t v, Try.f3.params[j]? = some t → args[j]? = some v → Value.okWide Try.prog W .any base t v := hval0
  have hW' := hW
  obtain ⟨p, q, hA0, hV, rfl, hfz, hnd⟩ := hW
  have hA : DataW.TrodAll enc Try.prog W 0 (fun _ => true) true Try.f3.params.toList args.toList ds p := hA0
  rw [Try.params3] at hA hval hsz
  obtain ⟨v0, vs0, d0, ds0, p0, q0, hargs, rfl, rfl, h0, r0⟩ := trodAll_cons hA
  obtain ⟨v1, vs1, d1, ds1, p1, q1, rfl, rfl, rfl, h1, r1⟩ := trodAll_cons r0
  obtain ⟨v2, vs2, d2, ds2, p2, q2, rfl, rfl, rfl, h2, r2⟩ := trodAll_cons r1
  obtain ⟨v3, vs3, d3, ds3, p3, q3, rfl, rfl, rfl, h3, r3⟩ := trodAll_cons r2
  obtain ⟨rfl, rfl, rfl⟩ := trodAll_nil r3
  obtain rfl : args = #[v0, v1, v2, v3] := by cases args; simp_all
  obtain ⟨rfl, rfl⟩ := trodVars_none hV
  obtain ⟨a0, rfl, rfl, rfl, w0⟩ := open_int Try.underlying3 (hval 0 3 v0 rfl rfl) h0
  obtain ⟨a1, rfl, rfl, rfl, w1⟩ := open_int Try.underlying3 (hval 1 3 v1 rfl rfl) h1
  obtain ⟨a2, rfl, rfl, rfl, y2⟩ := open_string Try.underlying9 (hval 2 9 v2 rfl rfl) h2
  have w2 : a2.size ≤ 140737488351232 := by
    have z := sized_string hsz (j := 2) (t := 9) rfl rfl
    rw [Array.length_toList] at z
    exact z
  obtain ⟨a3, len3, cap3, rfl⟩ := okWide_slice Try.underlying22 (hval 3 22 v3 rfl rfl)
  have k3 := h3
  have lt3 : ∀ x ∈ p3, x.block < W.heap.size := by obtain ⟨m, hm⟩ := k3; exact DataW.trod_lt m _ _ _ hm
  obtain ⟨z3, w3, l3⟩ : ∃ zs, Go.Proofs.YtgolccldopofbaaW.PrintWords.Kd.C Go.Proofs.YtgolccldopofbaaW.PrintWords.Kd.string W a3 len3 zs ∧ len3 ≤ cap3 := by
    obtain ⟨fuel, hf⟩ := h3
    rcases Go.Deep.open_strs Try.underlying22 Try.underlying9 (by kernel_rfl) hf with ⟨hcs, _⟩ | ⟨x, l, c, m, Sx, hcs, _, hl, hm, hmm, _, hcell⟩
    · simp [Value.cells] at hcs
      obtain ⟨rfl, rfl, rfl⟩ := hcs
      exact ⟨[], ⟨rfl, Nat.zero_le _, fun h => absurd h (Nat.lt_irrefl 0)⟩, Nat.le_refl 0⟩
    · simp [Value.cells] at hcs
      obtain ⟨rfl, rfl, rfl⟩ := hcs
      have hlm : len3 ≤ m := by rw [hmm]; simp [hl]
      refine ⟨(List.range len3).map Sx, ⟨by simp, by simp only [maxLen] at hm; omega, fun _ => ⟨x, rfl, fun j q hq => ?_⟩⟩, hl⟩
      have hj : j < len3 := by
        rcases Nat.lt_or_ge j len3 with h | h
        · exact h
        · simp [List.getElem?_eq_none, h] at hq
      rw [List.getElem?_map, List.getElem?_range hj] at hq
      obtain rfl := Option.some.inj hq
      refine ⟨[.string (Sx j)], rfl, rfl, fun t u hu => ?_⟩
      cases t with
      | zero =>
        obtain rfl := Option.some.inj hu
        have := (hcell j (by omega)).1
        simpa [Go.Proofs.YtgolccldopofbaaW.PrintWords.Kd.string, Go.Proofs.YtgolccldopofbaaW.PrintWords.Kd.scalar] using this
      | succ t => cases hu
  clear hA0 hval0 hsz0 hsz
  refine (walk a0 a1 a2 a3 len3 cap3 z3 W w3 l3).mono fun e W' ⟨he, bel⟩ => ?_
  subst he
  exact ⟨_, rfl, _, _, _, [], _, [], hW', trodAll_mk1 (shut_bool Try.underlying4 _), (trodAll_cons_mk (shut_int Try.underlying3 w0) (trodAll_cons_mk (shut_int Try.underlying3 w1) (trodAll_cons_mk (shut_string Try.underlying9 y2) (trodAll_cons_mk (Below.trod laidOut (by kernel_rfl) (of_decide_eq_true (by kernel_rfl)) k3 bel lt3) trodAll_mk0)))), rfl, bel.frame _, fun h => by cases h⟩
theorem over : Rows.nameTellsRow.holds Try.pinned (OpenSpec.ofChange Rows.nameTellsSpec) :=
  OpenClaim.holds_of_wide 3 Try.f3 rfl rfl rfl rfl rfl rfl rfl ⟨rfl, rfl, rfl, rfl, rfl⟩ rfl rfl rfl rfl rfl (by kernel_rfl) Try.func3 (by kernel_rfl)
    (of_decide_eq_true (by kernel_rfl)) (by unfold Func.isWrapper; first | (rw [if_pos (by decide +kernel)]; kernel_rfl) | (rw [if_neg (by decide +kernel)]; exact ⟨rfl, rfl⟩))
    (fun os started H enc _ => lifted os started H enc)
theorem proved : Rows.NameTellsSaid := over
#print axioms proved
end Go.Proofs.Ytgolccldopofbaa.nameTells
namespace Go.Proofs.Ytgolccldopofbaa
/-- The row, under a short name, for the claim. -/
theorem nameTells_holds : Rows.NameTellsSaid := nameTells.proved
end Go.Proofs.Ytgolccldopofbaa
