-- The law PinClosed: its row, printed by wip/lawtext.py of this repository.
import Derived.Test.YtdfjacpfmjgfiaaRows
import Derived.Test.YtdfjacpfmjgfiaaClosed
import Derived.Test.YtdfjacpfmjgfiaaOpens
import Derived.WalkKit
import Derived.ProofKit
import Derived.OpenShut
import Derived.ShutString
import Derived.ChangeOld
import Derived.Below
import Derived.SizedLaws
import Derived.Deep.Strs
import Derived.Deep.Matrix
import Derived.Test.YtdfjacpfmjgfiaaWSized
namespace Go.Proofs.Ytdfjacpfmjgfiaa.pinClosed
open Go.ChangeShapes Go.WideShapes Go.ChangeAt Go.RowKit
open Go.ChangeMaps (open_string shut_string)
set_option linter.unusedVariables false
set_option linter.unusedSimpArgs false
theorem own : ownKnob Try.prog.godebug = none := by kernel_rfl
theorem laidOut : laidOutB Try.prog = true := by kernel_rfl
def IsRow (k : IntKind) (w : World) (a : Option Addr) (len cap : Nat) (zs : List Int) : Prop :=
  (a = none ∧ len = 0 ∧ cap = 0 ∧ zs = []) ∨
  ∃ x, a = some x ∧ len ≤ cap ∧ cap ≤ maxLen ∧ zs.length = cap ∧ (∀ i, i < zs.length → w.cell? (x.add i) = some (.int k (zs.getD i 0))) ∧ ∀ n ∈ zs, (Lit.int k n).wf = true
theorem row_reads {W : World} {a : Option Addr} {len cap : Nat} {zs : List Int} (h : IsRow .i64 W a len cap zs) : Go.Proofs.YtdfjacpfmjgfiaaW.PrintWords.ReadsInt W .i64 a len (zs.take len) ∧ len ≤ cap := by
  rcases h with ⟨rfl, rfl, rfl, rfl⟩ | ⟨x, rfl, hl, hm, hz, hc, _⟩
  · exact ⟨⟨rfl, by decide, fun h => absurd h (Nat.lt_irrefl 0)⟩, Nat.le_refl _⟩
  · refine ⟨⟨by rw [List.length_take]; omega, by simp only [maxLen] at hm; omega, fun _ => ⟨x, rfl, fun j hj => ?_⟩⟩, hl⟩
    rw [hc j (by omega)]
    simp [List.getD_eq_getElem?_getD, List.getElem?_take, hj]
theorem range8 {n : Int} (h : (Lit.int .u8 n).wf = true) : 0 ≤ n ∧ n < 256 := by
  simp [Lit.wf, IntKind.min, IntKind.max, IntKind.bits, IntKind.signed] at h
  omega
theorem walk (a0 : Option Addr) (cap0 : Nat) (z0 : List (List Int)) (a1 : Int) (w : World) (w0 : Go.Proofs.YtdfjacpfmjgfiaaW.PrintWords.Kd.C (Go.Proofs.YtdfjacpfmjgfiaaW.PrintWords.Kd.slice 3 (Go.Proofs.YtdfjacpfmjgfiaaW.PrintWords.Kd.int .i64)) w a0 z0.length z0) (y0 : z0.length * Try.prog.bytesOf 29 ≤ reachBytes ∧ ∀ x ∈ z0, x.length * Try.prog.bytesOf 3 ≤ reachBytes ∧ ∀ y ∈ x, (Lit.int .i64 y).wf = true) (w1 : (Lit.int .u8 a1).wf = true) :
    Calls Try.prog 7 #[.slice a0 z0.length cap0, .int .u8 a1] w fun e w' => e = .returned (.bool true) ∧ Below w.heap.size w w' := by
  obtain ⟨h1, h2⟩ := range8 w1
  obtain ⟨tn, rfl⟩ : ∃ tn : Nat, a1 = tn := ⟨a1.toNat, by omega⟩
  have b29 : Try.prog.bytesOf 29 = 24 := by kernel_rfl
  have b3 : Try.prog.bytesOf 3 = 8 := by kernel_rfl
  have hr : reachBytes ≤ 140737488355328 := by decide
  rw [b29, b3] at y0
  exact closed_calls w tn w0 (by omega) (by have := y0.1; have : reachBytes = 140737488351232 := rfl; omega) (fun x hx => by have := (y0.2 x hx).1; have : reachBytes = 140737488351232 := rfl; omega)
set_option maxRecDepth 100000 in
theorem lifted (os : Os) (started : os.Started) (H : Type) (enc : TypeId × Value → H) :
    ReturnsInHanded {} Try.checked os 7 .any (Rows.pinClosedSpec.pre6 enc Try.prog Try.f7 Rows.pinClosedRow.domain false) (Rows.pinClosedSpec.post enc Try.prog Try.f7 false true false false) := by
  refine returnsInHanded_of_change_sized (C := Try.checked) own started (by kernel_rfl) Try.func7
    (ChangeSpec.witness6 (enc := enc) (C := Try.checked) false ⟨#[], #[.slice none 0 0, .int .u8 0], []⟩ 8 (by kernel_rfl) (by kernel_rfl) (by kernel_rfl) (by kernel_rfl)) ?_
  intro W base args ds gs before hval0 hW hcnd hsz0 _
  have hsz : (DataW.weightsEach Try.prog (Try.f7.params.toList ++ Rows.pinClosedSpec.plain.varTypes Try.prog) (ds ++ gs)).all (· ≤ reachBytes) = true := hsz0
  have hval : ∀ (j : Nat) t v, Try.f7.params[j]? = some t → args[j]? = some v → Value.okWide Try.prog W .any base t v := hval0
  have hW' := hW
  obtain ⟨p, q, hA0, hV, rfl, hfz, hnd⟩ := hW
  have hA : DataW.TrodAll enc Try.prog W 0 (fun _ => true) true Try.f7.params.toList args.toList ds p := hA0
  rw [Try.params7] at hA hval hsz
  obtain ⟨v0, vs0, d0, ds0, p0, q0, hargs, rfl, rfl, h0, r0⟩ := trodAll_cons hA
  obtain ⟨v1, vs1, d1, ds1, p1, q1, rfl, rfl, rfl, h1, r1⟩ := trodAll_cons r0
  obtain ⟨rfl, rfl, rfl⟩ := trodAll_nil r1
  obtain rfl : args = #[v0, v1] := by cases args; simp_all
  obtain ⟨rfl, rfl⟩ := trodVars_none hV
  obtain ⟨a0, len0, cap0, rfl⟩ := okWide_slice Try.underlying45 (hval 0 45 v0 rfl rfl)
  have k0 := h0
  have lt0 : ∀ x ∈ p0, x.block < W.heap.size := by obtain ⟨m, hm⟩ := k0; exact DataW.trod_lt m _ _ _ hm
  obtain ⟨z0, ⟨A0, C0, e0, l0, w0⟩, y0⟩ := (op_slice Try.underlying45 (by kernel_rfl) (op_slice Try.underlying29 (by kernel_rfl) (op_int Try.underlying3 (by kernel_rfl)))).arg hsz (j := 0) (t := 45) rfl rfl h0
  obtain ⟨rfl, rfl, rfl⟩ : a0 = A0 ∧ len0 = z0.length ∧ cap0 = C0 := by simpa [Value.cells] using e0
  obtain ⟨a1, rfl, rfl, rfl, w1⟩ := open_int Try.underlying5 (hval 1 5 v1 rfl rfl) h1
  clear hA0 hval0 hsz0 hsz
  refine (walk a0 cap0 z0 a1 W w0 y0 w1).mono fun e W' ⟨he, bel⟩ => ?_
  subst he
  exact ⟨_, rfl, _, _, _, [], _, [], hW', trodAll_mk1 (shut_bool Try.underlying4 _), (trodAll_cons_mk (Below.trod laidOut (by kernel_rfl) (of_decide_eq_true (by kernel_rfl)) k0 bel lt0) (trodAll_cons_mk (shut_int Try.underlying5 w1) trodAll_mk0)), rfl, bel.frame _, fun h => by cases h⟩
theorem over : Rows.pinClosedRow.holds Try.pinned (OpenSpec.ofChange Rows.pinClosedSpec) :=
  OpenClaim.holds_of_wide 7 Try.f7 rfl rfl rfl rfl rfl rfl rfl ⟨rfl, rfl, rfl, rfl, rfl⟩ rfl rfl rfl rfl rfl (by kernel_rfl) Try.func7 (by kernel_rfl)
    (of_decide_eq_true (by kernel_rfl)) (by unfold Func.isWrapper; first | (rw [if_pos (by decide +kernel)]; kernel_rfl) | (rw [if_neg (by decide +kernel)]; exact ⟨rfl, rfl⟩))
    (fun os started H enc _ => lifted os started H enc)
theorem proved : Rows.PinClosedSaid := over
#print axioms proved
end Go.Proofs.Ytdfjacpfmjgfiaa.pinClosed
namespace Go.Proofs.Ytdfjacpfmjgfiaa
/-- The row, under a short name, for the claim. -/
theorem pinClosed_holds : Rows.PinClosedSaid := pinClosed.proved
end Go.Proofs.Ytdfjacpfmjgfiaa
