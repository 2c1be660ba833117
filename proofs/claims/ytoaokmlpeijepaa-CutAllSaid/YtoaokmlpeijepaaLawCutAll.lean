-- The law CutAll: its row, printed by wip/lawtext.py of this repository.
import Derived.Test.YtoaokmlpeijepaaRows
import Derived.Test.YtoaokmlpeijepaaAll
import Derived.Test.YtoaokmlpeijepaaWeigh
import Derived.WalkKit
import Derived.ProofKit
import Derived.OpenShut
import Derived.ShutString
import Derived.ChangeOld
import Derived.Below
import Derived.SizedLaws
import Derived.Deep.Strs
import Derived.Deep.Matrix
import Derived.Test.YtoaokmlpeijepaaWSized
namespace Go.Proofs.Ytoaokmlpeijepaa.cutAll
open Go.ChangeShapes Go.WideShapes Go.ChangeAt Go.RowKit
open Go.ChangeMaps (open_string shut_string)
set_option linter.unusedVariables false
set_option linter.unusedSimpArgs false
theorem own : ownKnob Try.prog.godebug = none := by kernel_rfl
theorem laidOut : laidOutB Try.prog = true := by kernel_rfl
def IsRow (k : IntKind) (w : World) (a : Option Addr) (len cap : Nat) (zs : List Int) : Prop :=
  (a = none ∧ len = 0 ∧ cap = 0 ∧ zs = []) ∨
  ∃ x, a = some x ∧ len ≤ cap ∧ cap ≤ maxLen ∧ zs.length = cap ∧ (∀ i, i < zs.length → w.cell? (x.add i) = some (.int k (zs.getD i 0))) ∧ ∀ n ∈ zs, (Lit.int k n).wf = true
theorem walk (a0 : Int) (h0 : (Lit.int .u16 a0).wf = true) (a1 : Option Addr) (len1 cap1 : Nat) (z1 : List (List Int)) (w : World) (w1 : Go.Proofs.YtoaokmlpeijepaaW.PrintWords.Kd.C (Go.Proofs.YtoaokmlpeijepaaW.PrintWords.Kd.slice 5 (Go.Proofs.YtoaokmlpeijepaaW.PrintWords.Kd.int .u8)) w a1 len1 z1) (y1 : ∀ x ∈ z1, x.length ≤ 140737488351232) :
    Calls Try.prog 4 #[.int .u16 a0, .slice a1 len1 cap1] w fun e w' => e = .returned (.bool true) ∧ Below w.heap.size w w' := by
  have hl : z1.length = len1 := w1.1
  subst hl
  simp [Lit.wf, IntKind.min, IntKind.max, IntKind.bits, IntKind.signed] at h0
  exact all_calls a0 (by omega) (by omega) a1 cap1 z1 w w1 y1
set_option maxRecDepth 100000 in
theorem lifted (os : Os) (started : os.Started) (H : Type) (enc : TypeId × Value → H) :
    ReturnsInHanded {} Try.checked os 4 .any (Rows.cutAllSpec.pre6 enc Try.prog Try.f4 Rows.cutAllRow.domain false) (Rows.cutAllSpec.post enc Try.prog Try.f4 false true false false) := by
  refine returnsInHanded_of_change_sized (C := Try.checked) own started (by kernel_rfl) Try.func4
    (ChangeSpec.witness6 (enc := enc) (C := Try.checked) false ⟨#[], #[.int .u16 0, .slice none 0 0], []⟩ 8 (by kernel_rfl) (by kernel_rfl) (by kernel_rfl) (by kernel_rfl)) ?_
  intro W base args ds gs before hval0 hW hcnd hsz0 _
  have hsz : (DataW.weightsEach Try.prog (Try.f4.params.toList ++ Rows.cutAllSpec.plain.varTypes Try.prog) (ds ++ gs)).all (· ≤ reachBytes) = true := hsz0
  have hval : ∀ (j : Nat) t v, Try.f4.params[j]? = some t → args[j]? = some v → Value.okWide Try.prog W .any base t v := hval0
  have hW' := hW
  obtain ⟨p, q, hA0, hV, rfl, hfz, hnd⟩ := hW
  have hA : DataW.TrodAll enc Try.prog W 0 (fun _ => true) true Try.f4.params.toList args.toList ds p := hA0
  rw [Try.params4] at hA hval hsz
  obtain ⟨v0, vs0, d0, ds0, p0, q0, hargs, rfl, rfl, h0, r0⟩ := trodAll_cons hA
  obtain ⟨v1, vs1, d1, ds1, p1, q1, rfl, rfl, rfl, h1, r1⟩ := trodAll_cons r0
  obtain ⟨rfl, rfl, rfl⟩ := trodAll_nil r1
  obtain rfl : args = #[v0, v1] := by cases args; simp_all
  obtain ⟨rfl, rfl⟩ := trodVars_none hV
  obtain ⟨a0, rfl, rfl, rfl, w0⟩ := open_int Try.underlying38 (hval 0 38 v0 rfl rfl) h0
  obtain ⟨a1, len1, cap1, rfl⟩ := okWide_slice Try.underlying33 (hval 1 33 v1 rfl rfl)
  have k1 := h1
  have lt1 : ∀ x ∈ p1, x.block < W.heap.size := by obtain ⟨m, hm⟩ := k1; exact DataW.trod_lt m _ _ _ hm
  obtain ⟨z1, w1, y1⟩ : ∃ zs : List (List Int), Go.Proofs.YtoaokmlpeijepaaW.PrintWords.Kd.C (Go.Proofs.YtoaokmlpeijepaaW.PrintWords.Kd.slice 5 (Go.Proofs.YtoaokmlpeijepaaW.PrintWords.Kd.int .u8)) W a1 len1 zs ∧ ∀ x ∈ zs, x.length ≤ 140737488351232 := by
    obtain ⟨fuel, hf⟩ := h1
    rcases Go.Deep.open_int_rows Try.underlying33 Try.underlying29 Try.underlying5 (by kernel_rfl) (by kernel_rfl) hf with ⟨hcs, _⟩ | ⟨x, l, c, A, L, C, Z, hcs, _, hl, hm, hxd, hrow⟩
    · simp [Value.cells] at hcs
      obtain ⟨rfl, rfl, rfl⟩ := hcs
      exact ⟨[], ⟨rfl, Nat.zero_le _, fun h => absurd h (Nat.lt_irrefl 0)⟩, by simp⟩
    · simp [Value.cells] at hcs
      obtain ⟨rfl, rfl, rfl⟩ := hcs
      refine ⟨(List.range len1).map fun r => (Z r).take (L r), ⟨by simp, by simp only [maxLen] at hm; omega, fun _ => ⟨x, rfl, fun j q hq => ?_⟩⟩, fun q hq => ?_⟩
      case refine_2 =>
        obtain ⟨j, hj, rfl⟩ := List.mem_map.1 hq
        have hj' := List.mem_range.1 hj
        obtain ⟨h1, h2, h3, h4, h5, h6, h7⟩ := hrow j (by omega)
        have hle : ((Z j).take (L j)).length ≤ C j := by simp; omega
        cases hA : A j with
        | none => have := h6 hA; omega
        | some a' =>
          have hz := sized_row (k := .u8) (q := 5) (a := a') (L := L j) (Z := Z j) hsz (j := 1) (t := 33) rfl (congrArg some (Prod.mk.inj hxd).1) Try.underlying33 Try.underlying29 (List.mem_map.2 ⟨j, hj, by rw [hA]⟩)
          have hb : Try.prog.bytesOf 5 = 1 := by kernel_rfl
          rw [hb] at hz
          omega
      have hj : j < len1 := by
        rcases Nat.lt_or_ge j len1 with h | h
        · exact h
        · simp [List.getElem?_eq_none, h] at hq
      rw [List.getElem?_map, List.getElem?_range hj] at hq
      obtain rfl := Option.some.inj hq
      obtain ⟨h1, h2, h3, h4, h5, h6, h7⟩ := hrow j (by omega)
      have e : ((Z j).take (L j)).length = L j := by simp; omega
      refine ⟨[.slice (A j) (L j) (C j)], rfl, ⟨A j, C j, by rw [e], by rw [e]; exact h2, rfl, by simp only [maxLen] at h3; dsimp only; omega, fun hn => ?_⟩, fun t u hu => ?_⟩
      · have hn' : 0 < L j := by rw [← e]; exact hn
        cases hA : A j with
        | none => have := h6 hA; omega
        | some a' =>
          refine ⟨a', rfl, fun s v hv => ⟨[.int .u8 v], rfl, rfl, fun t u hu => ?_⟩⟩
          cases t with
          | zero =>
            obtain rfl := Option.some.inj hu
            have hs : s < L j := by
              rcases Nat.lt_or_ge s (L j) with h | h
              · exact h
              · simp [List.getElem?_eq_none (show ((Z j).take (L j)).length ≤ s by omega)] at hv
            have := (h7 a' hA).2 s (by omega)
            rw [List.getElem?_take, if_pos hs, List.getElem?_eq_getElem (by omega)] at hv
            injection hv with hv
            rw [show s * (Go.Proofs.YtoaokmlpeijepaaW.PrintWords.Kd.int .u8).sz + 0 = s by show s * 1 + 0 = s; omega, this, List.getD_eq_getElem?_getD, List.getElem?_eq_getElem (by omega), ← hv]
            rfl
          | succ t => cases hu
      · cases t with
        | zero =>
          obtain rfl := Option.some.inj hu
          rw [show j * (Go.Proofs.YtoaokmlpeijepaaW.PrintWords.Kd.slice 5 (Go.Proofs.YtoaokmlpeijepaaW.PrintWords.Kd.int .u8)).sz + 0 = j by show j * 1 + 0 = j; omega]
          exact h1
        | succ t => cases hu
  clear hA0 hval0 hsz0 hsz
  refine (walk a0 w0 a1 len1 cap1 z1 W w1 y1).mono fun e W' ⟨he, bel⟩ => ?_
  subst he
  exact ⟨_, rfl, _, _, _, [], _, [], hW', trodAll_mk1 (shut_bool Try.underlying4 _), (trodAll_cons_mk (shut_int Try.underlying38 w0) (trodAll_cons_mk (Below.trod laidOut (by kernel_rfl) (of_decide_eq_true (by kernel_rfl)) k1 bel lt1) trodAll_mk0)), rfl, bel.frame _, fun h => by cases h⟩
theorem over : Rows.cutAllRow.holds Try.pinned (OpenSpec.ofChange Rows.cutAllSpec) :=
  OpenClaim.holds_of_wide 4 Try.f4 rfl rfl rfl rfl rfl rfl rfl ⟨rfl, rfl, rfl, rfl, rfl⟩ rfl rfl rfl rfl rfl (by kernel_rfl) Try.func4 (by kernel_rfl)
    (of_decide_eq_true (by kernel_rfl)) (by unfold Func.isWrapper; first | (rw [if_pos (by decide +kernel)]; kernel_rfl) | (rw [if_neg (by decide +kernel)]; exact ⟨rfl, rfl⟩))
    (fun os started H enc _ => lifted os started H enc)
theorem proved : Rows.CutAllSaid := over
#print axioms proved
end Go.Proofs.Ytoaokmlpeijepaa.cutAll
namespace Go.Proofs.Ytoaokmlpeijepaa
/-- The row, under a short name, for the claim. -/
theorem cutAll_holds : Rows.CutAllSaid := cutAll.proved
end Go.Proofs.Ytoaokmlpeijepaa
