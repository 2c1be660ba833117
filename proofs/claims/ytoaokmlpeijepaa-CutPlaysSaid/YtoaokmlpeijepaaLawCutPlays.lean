-- The law CutPlays: its row, printed by wip/lawtext.py of this repository.
import Derived.Test.YtoaokmlpeijepaaRows
import Derived.Test.YtoaokmlpeijepaaPlays
import Derived.Test.YtoaokmlpeijepaaOpens
import Derived.WalkKit
import Derived.ProofKit
import Derived.OpenShut
import Derived.ShutString
import Derived.ChangeOld
import Derived.Below
import Derived.SizedLaws
import Derived.Deep.Strs
import Derived.Deep.Matrix
import Derived.Test.YtoaokmlpeijepaaWSized
namespace Go.Proofs.Ytoaokmlpeijepaa.cutPlays
open Go.ChangeShapes Go.WideShapes Go.ChangeAt Go.RowKit
open Go.ChangeMaps (open_string shut_string)
set_option linter.unusedVariables false
set_option linter.unusedSimpArgs false
theorem own : ownKnob Try.prog.godebug = none := by kernel_rfl
theorem laidOut : laidOutB Try.prog = true := by kernel_rfl
def IsRow (k : IntKind) (w : World) (a : Option Addr) (len cap : Nat) (zs : List Int) : Prop :=
  (a = none ∧ len = 0 ∧ cap = 0 ∧ zs = []) ∨
  ∃ x, a = some x ∧ len ≤ cap ∧ cap ≤ maxLen ∧ zs.length = cap ∧ (∀ i, i < zs.length → w.cell? (x.add i) = some (.int k (zs.getD i 0))) ∧ ∀ n ∈ zs, (Lit.int k n).wf = true
open PCutPlays (S31 k31)
theorem op31 {H : Type} {enc : TypeId × Value → H} {W : World} : Opener enc Try.prog W 31 k31 (fun b : S31 => (Lit.int .i64 b.f0).wf = true ∧ (b.f1.length * Try.prog.bytesOf 5 ≤ reachBytes ∧ ∀ x ∈ b.f1, (Lit.int .u8 x).wf = true)) :=
  op_struct (fun x : S31 => (x.f0, x.f1)) (fun y => ⟨y.1, y.2⟩) (fun _ => rfl) Try.underlying31 (by kernel_rfl) (of_cons (op_int Try.underlying3 (by kernel_rfl)) (of_one (op_slice Try.underlying29 (by kernel_rfl) (op_int Try.underlying5 (by kernel_rfl)))))
theorem walk (a0 : Int) (h0 : (Lit.int .i64 a0).wf = true) (a1 : Option Addr) (cap1 : Nat) (z1 : List S31) (w : World) (w1 : Go.Proofs.YtoaokmlpeijepaaW.PrintWords.Kd.C k31 w a1 z1.length z1) (l1 : z1.length ≤ cap1) (y1 : z1.length * Try.prog.bytesOf 31 ≤ reachBytes ∧ ∀ x ∈ z1, (Lit.int .i64 x.f0).wf = true ∧ (x.f1.length * Try.prog.bytesOf 5 ≤ reachBytes ∧ ∀ y ∈ x.f1, (Lit.int .u8 y).wf = true)) :
    Calls Try.prog 3 #[.int .i64 a0, .slice a1 z1.length cap1] w fun e w' => e = .returned (.bool true) ∧ Below w.heap.size w w' := by
  refine plays_calls a0 a1 cap1 z1 w w1 l1 (Nat.le_trans ?_ (show reachBytes ≤ 4611686018427387904 by decide)) (fun x hx y hy => ?_)
  · refine Nat.le_trans ?_ y1.1
    exact Nat.le_mul_of_pos_right _ (by have : Try.prog.bytesOf 31 = 32 := by kernel_rfl
                                        omega)
  · have := (y1.2 x hx).2.2 y hy
    simp [Lit.wf, IntKind.min, IntKind.max, IntKind.bits, IntKind.signed] at this
    omega
set_option maxRecDepth 100000 in
theorem lifted (os : Os) (started : os.Started) (H : Type) (enc : TypeId × Value → H) :
    ReturnsInHanded {} Try.checked os 3 .any (Rows.cutPlaysSpec.pre6 enc Try.prog Try.f3 Rows.cutPlaysRow.domain false) (Rows.cutPlaysSpec.post enc Try.prog Try.f3 false true false false) := by
  refine returnsInHanded_of_change_sized (C := Try.checked) own started (by kernel_rfl) Try.func3
    (ChangeSpec.witness6 (enc := enc) (C := Try.checked) false ⟨#[], #[.int .i64 0, .slice none 0 0], []⟩ 8 (by kernel_rfl) (by kernel_rfl) (by kernel_rfl) (by kernel_rfl)) ?_
  intro W base args ds gs before hval0 hW hcnd hsz0 _
  have hsz : (DataW.weightsEach Try.prog (Try.f3.params.toList ++ Rows.cutPlaysSpec.plain.varTypes Try.prog) (ds ++ gs)).all (· ≤ reachBytes) = true := hsz0
  have hval : ∀ (j : Nat) t v, Try.f3.params[j]? = some t → args[j]? = some v → Value.okWide Try.prog W .any base t v := hval0
  have hW' := hW
  obtain ⟨p, q, hA0, hV, rfl, hfz, hnd⟩ := hW
  have hA : DataW.TrodAll enc Try.prog W 0 (fun _ => true) true Try.f3.params.toList args.toList ds p := hA0
  rw [Try.params3] at hA hval hsz
  obtain ⟨v0, vs0, d0, ds0, p0, q0, hargs, rfl, rfl, h0, r0⟩ := trodAll_cons hA
  obtain ⟨v1, vs1, d1, ds1, p1, q1, rfl, rfl, rfl, h1, r1⟩ := trodAll_cons r0
  obtain ⟨rfl, rfl, rfl⟩ := trodAll_nil r1
  obtain rfl : args = #[v0, v1] := by cases args; simp_all
  obtain ⟨rfl, rfl⟩ := trodVars_none hV
  obtain ⟨a0, rfl, rfl, rfl, w0⟩ := open_int Try.underlying3 (hval 0 3 v0 rfl rfl) h0
  obtain ⟨a1, len1, cap1, rfl⟩ := okWide_slice Try.underlying22 (hval 1 22 v1 rfl rfl)
  have k1 := h1
  have lt1 : ∀ x ∈ p1, x.block < W.heap.size := by obtain ⟨m, hm⟩ := k1; exact DataW.trod_lt m _ _ _ hm
  obtain ⟨z1, ⟨A1, C1, e1, l1, w1⟩, y1⟩ := (op_slice Try.underlying22 (by kernel_rfl) op31).arg hsz (j := 1) (t := 22) rfl rfl h1
  obtain ⟨rfl, rfl, rfl⟩ : a1 = A1 ∧ len1 = z1.length ∧ cap1 = C1 := by simpa [Value.cells] using e1
  clear hA0 hval0 hsz0 hsz
  refine (walk a0 w0 a1 cap1 z1 W w1 l1 y1).mono fun e W' ⟨he, bel⟩ => ?_
  subst he
  exact ⟨_, rfl, _, _, _, [], _, [], hW', trodAll_mk1 (shut_bool Try.underlying4 _), (trodAll_cons_mk (shut_int Try.underlying3 w0) (trodAll_cons_mk (Below.trod laidOut (by kernel_rfl) (of_decide_eq_true (by kernel_rfl)) k1 bel lt1) trodAll_mk0)), rfl, bel.frame _, fun h => by cases h⟩
theorem over : Rows.cutPlaysRow.holds Try.pinned (OpenSpec.ofChange Rows.cutPlaysSpec) :=
  OpenClaim.holds_of_wide 3 Try.f3 rfl rfl rfl rfl rfl rfl rfl ⟨rfl, rfl, rfl, rfl, rfl⟩ rfl rfl rfl rfl rfl (by kernel_rfl) Try.func3 (by kernel_rfl)
    (of_decide_eq_true (by kernel_rfl)) (by unfold Func.isWrapper; first | (rw [if_pos (by decide +kernel)]; kernel_rfl) | (rw [if_neg (by decide +kernel)]; exact ⟨rfl, rfl⟩))
    (fun os started H enc _ => lifted os started H enc)
theorem proved : Rows.CutPlaysSaid := over
#print axioms proved
end Go.Proofs.Ytoaokmlpeijepaa.cutPlays
namespace Go.Proofs.Ytoaokmlpeijepaa
/-- The row, under a short name, for the claim. -/
theorem cutPlays_holds : Rows.CutPlaysSaid := cutPlays.proved
end Go.Proofs.Ytoaokmlpeijepaa
