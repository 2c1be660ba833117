-- The law SpanAll: its row, printed by wip/lawtext.py of this repository.
import Derived.Test.YtbadkblofihjhaaRows
import Derived.Test.YtbadkblofihjhaaAll
import Derived.WalkKit
import Derived.ProofKit
import Derived.OpenShut
import Derived.ShutString
import Derived.ChangeOld
import Derived.Below
import Derived.SizedLaws
import Derived.Deep.Strs
import Derived.Deep.Matrix
import Derived.Test.YtbadkblofihjhaaWSized
namespace Go.Proofs.Ytbadkblofihjhaa.spanAll
open Go.ChangeShapes Go.WideShapes Go.ChangeAt Go.RowKit
open Go.ChangeMaps (open_string shut_string)
set_option linter.unusedVariables false
set_option linter.unusedSimpArgs false
theorem own : ownKnob Try.prog.godebug = none := by kernel_rfl
theorem laidOut : laidOutB Try.prog = true := by kernel_rfl
def IsRow (k : IntKind) (w : World) (a : Option Addr) (len cap : Nat) (zs : List Int) : Prop :=
  (a = none ∧ len = 0 ∧ cap = 0 ∧ zs = []) ∨
  ∃ x, a = some x ∧ len ≤ cap ∧ cap ≤ maxLen ∧ zs.length = cap ∧ (∀ i, i < zs.length → w.cell? (x.add i) = some (.int k (zs.getD i 0))) ∧ ∀ n ∈ zs, (Lit.int k n).wf = true
theorem range64 {n : Int} (h : (Lit.int .i64 n).wf = true) : -9223372036854775808 ≤ n ∧ n ≤ 9223372036854775807 := by
  simp [Lit.wf, IntKind.min, IntKind.max, IntKind.bits, IntKind.signed] at h
  omega
set_option maxRecDepth 100000 in
theorem lifted (os : Os) (started : os.Started) (H : Type) (enc : TypeId × Value → H) :
    ReturnsInHanded {} Try.checked os 4 .any (Rows.spanAllSpec.pre6 enc Try.prog Try.f4 Rows.spanAllRow.domain false) (Rows.spanAllSpec.post enc Try.prog Try.f4 false true false false) := by
  refine returnsInHanded_of_change_sized (C := Try.checked) own started (by kernel_rfl) Try.func4
    (ChangeSpec.witness6 (enc := enc) (C := Try.checked) false ⟨#[], #[.slice none 0 0, .int .i64 0, .int .i64 0], []⟩ 8 (by kernel_rfl) (by kernel_rfl) (by kernel_rfl) (by kernel_rfl)) ?_
  intro W base args ds gs before hval0 hW hcnd hsz0 _
  have hsz : (DataW.weightsEach Try.prog (Try.f4.params.toList ++ Rows.spanAllSpec.plain.varTypes Try.prog) (ds ++ gs)).all (· ≤ reachBytes) = true := hsz0
  have hval : ∀ (j : Nat) t v, Try.f4.params[j]? = some t → args[j]? = some v → Value.okWide Try.prog W .any base t v := hval0
  have hW' := hW
  obtain ⟨p, q, hA0, hV, rfl, hfz, hnd⟩ := hW
  have hA : DataW.TrodAll enc Try.prog W 0 (fun _ => true) true Try.f4.params.toList args.toList ds p := hA0
  rw [Try.params4] at hA hval hsz
  obtain ⟨v0, vs0, d0, ds0, p0, q0, hargs, rfl, rfl, h0, r0⟩ := trodAll_cons hA
  obtain ⟨v1, vs1, d1, ds1, p1, q1, rfl, rfl, rfl, h1, r1⟩ := trodAll_cons r0
  obtain ⟨v2, vs2, d2, ds2, p2, q2, rfl, rfl, rfl, h2, r2⟩ := trodAll_cons r1
  obtain ⟨rfl, rfl, rfl⟩ := trodAll_nil r2
  obtain rfl : args = #[v0, v1, v2] := by cases args; simp_all
  obtain ⟨rfl, rfl⟩ := trodVars_none hV
  obtain ⟨a0, len0, cap0, rfl⟩ := okWide_slice Try.underlying31 (hval 0 31 v0 rfl rfl)
  have k0 := h0
  have lt0 : ∀ x ∈ p0, x.block < W.heap.size := by obtain ⟨m, hm⟩ := k0; exact DataW.trod_lt m _ _ _ hm
  obtain ⟨z0, w0⟩ : ∃ zs : List (List Int), Go.Proofs.YtbadkblofihjhaaW.PrintWords.Kd.C (Go.Proofs.YtbadkblofihjhaaW.PrintWords.Kd.slice 5 (Go.Proofs.YtbadkblofihjhaaW.PrintWords.Kd.int .u8)) W a0 len0 zs := by
    obtain ⟨fuel, hf⟩ := h0
    rcases Go.Deep.open_int_rows Try.underlying31 Try.underlying32 Try.underlying5 (by kernel_rfl) (by kernel_rfl) hf with ⟨hcs, _⟩ | ⟨x, l, c, A, L, C, Z, hcs, _, hl, hm, _, hrow⟩
    · simp [Value.cells] at hcs
      obtain ⟨rfl, rfl, rfl⟩ := hcs
      exact ⟨[], rfl, Nat.zero_le _, fun h => absurd h (Nat.lt_irrefl 0)⟩
    · simp [Value.cells] at hcs
      obtain ⟨rfl, rfl, rfl⟩ := hcs
      refine ⟨(List.range len0).map fun r => (Z r).take (L r), by simp, by simp only [maxLen] at hm; omega, fun _ => ⟨x, rfl, fun j q hq => ?_⟩⟩
      have hj : j < len0 := by
        rcases Nat.lt_or_ge j len0 with h | h
        · exact h
        · simp [List.getElem?_eq_none, h] at hq
      rw [List.getElem?_map, List.getElem?_range hj] at hq
      obtain rfl := Option.some.inj hq
      obtain ⟨h1, h2, h3, h4, h5, h6, h7⟩ := hrow j (by omega)
      have e : ((Z j).take (L j)).length = L j := by simp; omega
      refine ⟨[.slice (A j) (L j) (C j)], rfl, ⟨A j, C j, by rw [e], by rw [e]; exact h2, rfl, by simp only [maxLen] at h3; dsimp only; omega, fun hn => ?_⟩, fun t u hu => ?_⟩
      · have hn' : 0 < L j := by rw [← e]; exact hn
        cases hA : A j with
        | none => have := h6 hA; omega
        | some a' =>
          refine ⟨a', rfl, fun s v hv => ⟨[.int .u8 v], rfl, rfl, fun t u hu => ?_⟩⟩
          cases t with
          | zero =>
            obtain rfl := Option.some.inj hu
            have hs : s < L j := by
              rcases Nat.lt_or_ge s (L j) with h | h
              · exact h
              · simp [List.getElem?_eq_none (show ((Z j).take (L j)).length ≤ s by omega)] at hv
            have := (h7 a' hA).2 s (by omega)
            rw [List.getElem?_take, if_pos hs, List.getElem?_eq_getElem (by omega)] at hv
            injection hv with hv
            rw [show s * (Go.Proofs.YtbadkblofihjhaaW.PrintWords.Kd.int .u8).sz + 0 = s by show s * 1 + 0 = s; omega, this, List.getD_eq_getElem?_getD, List.getElem?_eq_getElem (by omega), ← hv]
            rfl
          | succ t => cases hu
      · cases t with
        | zero =>
          obtain rfl := Option.some.inj hu
          rw [show j * (Go.Proofs.YtbadkblofihjhaaW.PrintWords.Kd.slice 5 (Go.Proofs.YtbadkblofihjhaaW.PrintWords.Kd.int .u8)).sz + 0 = j by show j * 1 + 0 = j; omega]
          exact h1
        | succ t => cases hu
  obtain ⟨a1, rfl, rfl, rfl, w1⟩ := open_int Try.underlying3 (hval 1 3 v1 rfl rfl) h1
  obtain ⟨a2, rfl, rfl, rfl, w2⟩ := open_int Try.underlying3 (hval 2 3 v2 rfl rfl) h2
  clear hA0 hval0 hsz0 hsz
  refine (all_calls a0 len0 cap0 z0 a1 a2 W w0 (range64 w1) (range64 w2)).mono fun e W' ⟨he, bel⟩ => ?_
  subst he
  exact ⟨_, rfl, _, _, _, [], _, [], hW', trodAll_mk1 (shut_bool Try.underlying4 _), (trodAll_cons_mk (Below.trod laidOut (by kernel_rfl) (of_decide_eq_true (by kernel_rfl)) k0 bel lt0) (trodAll_cons_mk (shut_int Try.underlying3 w1) (trodAll_cons_mk (shut_int Try.underlying3 w2) trodAll_mk0))), rfl, bel.frame _, fun h => by cases h⟩
theorem over : Rows.spanAllRow.holds Try.pinned (OpenSpec.ofChange Rows.spanAllSpec) :=
  OpenClaim.holds_of_wide 4 Try.f4 rfl rfl rfl rfl rfl rfl rfl ⟨rfl, rfl, rfl, rfl, rfl⟩ rfl rfl rfl rfl rfl (by kernel_rfl) Try.func4 (by kernel_rfl)
    (of_decide_eq_true (by kernel_rfl)) (by unfold Func.isWrapper; first | (rw [if_pos (by decide +kernel)]; kernel_rfl) | (rw [if_neg (by decide +kernel)]; exact ⟨rfl, rfl⟩))
    (fun os started H enc _ => lifted os started H enc)
theorem proved : Rows.SpanAllSaid := over
#print axioms proved
end Go.Proofs.Ytbadkblofihjhaa.spanAll
namespace Go.Proofs.Ytbadkblofihjhaa
/-- The row, under a short name, for the claim. -/
theorem spanAll_holds : Rows.SpanAllSaid := spanAll.proved
end Go.Proofs.Ytbadkblofihjhaa
