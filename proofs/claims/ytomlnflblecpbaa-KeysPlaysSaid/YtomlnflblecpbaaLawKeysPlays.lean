-- The law KeysPlays: its row, printed by wip/lawtext.py of this repository.
import Derived.Test.YtomlnflblecpbaaRows
import Derived.Test.YtomlnflblecpbaaPlays
import Derived.Test.YtomlnflblecpbaaOpens
import Derived.WalkKit
import Derived.ProofKit
import Derived.OpenShut
import Derived.ShutString
import Derived.ChangeOld
import Derived.Below
import Derived.SizedLaws
import Derived.Deep.Strs
import Derived.Deep.Matrix
import Derived.Test.YtomlnflblecpbaaWSized
namespace Go.Proofs.Ytomlnflblecpbaa.keysPlays
open Go.ChangeShapes Go.WideShapes Go.ChangeAt Go.RowKit
open Go.ChangeMaps (open_string shut_string)
set_option linter.unusedVariables false
set_option linter.unusedSimpArgs false
theorem own : ownKnob Try.prog.godebug = none := by kernel_rfl
theorem laidOut : laidOutB Try.prog = true := by kernel_rfl
def IsRow (k : IntKind) (w : World) (a : Option Addr) (len cap : Nat) (zs : List Int) : Prop :=
  (a = none ∧ len = 0 ∧ cap = 0 ∧ zs = []) ∨
  ∃ x, a = some x ∧ len ≤ cap ∧ cap ≤ maxLen ∧ zs.length = cap ∧ (∀ i, i < zs.length → w.cell? (x.add i) = some (.int k (zs.getD i 0))) ∧ ∀ n ∈ zs, (Lit.int k n).wf = true
theorem range8 {n : Int} (h : (Lit.int .u8 n).wf = true) : 0 ≤ n ∧ n < 256 := by
  simp [Lit.wf, IntKind.min, IntKind.max, IntKind.bits, IntKind.signed] at h
  omega
open PKeysPlays (S30 k30 S32 k32 S34 k34)
theorem len34 {n : Nat} (h : n * Try.prog.bytesOf 34 ≤ reachBytes) : n ≤ 4611686018427387904 := by
  have e : Try.prog.bytesOf 34 = 64 := by kernel_rfl
  rw [e] at h
  have : reachBytes ≤ 4611686018427387904 := by decide
  omega
def Fit30 (x : S30) : Prop := (Lit.int .i64 x.f0).wf = true ∧ x.f1.size ≤ reachBytes ∧ (Lit.int .i64 x.f2).wf = true ∧ (Lit.int .i64 x.f3).wf = true
def Fit32 (x : S32) : Prop := (Lit.int .i64 x.f0).wf = true ∧ Fit30 x.f1
def Fit34 (x : S34) : Prop := (Lit.int .i64 x.f0).wf = true ∧ Fit32 x.f1 ∧ (Lit.int .i64 x.f2).wf = true
theorem op30 {H : Type} {enc : TypeId × Value → H} {W : World} : Opener enc Try.prog W 30 k30 Fit30 :=
  op_struct (fun x : S30 => (x.f0, x.f1, x.f2, x.f3)) (fun y => ⟨y.1, y.2.1, y.2.2.1, y.2.2.2⟩) (fun _ => rfl) Try.underlying30 (by kernel_rfl) (of_cons (op_int Try.underlying3 (by kernel_rfl)) (of_cons (op_string Try.underlying9 (by kernel_rfl)) (of_cons (op_int Try.underlying3 (by kernel_rfl)) (of_one (op_int Try.underlying3 (by kernel_rfl))))))
theorem op32 {H : Type} {enc : TypeId × Value → H} {W : World} : Opener enc Try.prog W 32 k32 Fit32 :=
  op_struct (fun x : S32 => (x.f0, x.f1)) (fun y => ⟨y.1, y.2⟩) (fun _ => rfl) Try.underlying32 (by kernel_rfl) (of_cons (op_int Try.underlying3 (by kernel_rfl)) (of_one op30))
theorem op34 {H : Type} {enc : TypeId × Value → H} {W : World} : Opener enc Try.prog W 34 k34 Fit34 :=
  op_struct (fun x : S34 => (x.f0, x.f1, x.f2)) (fun y => ⟨y.1, y.2.1, y.2.2⟩) (fun _ => rfl) Try.underlying34 (by kernel_rfl) (of_cons (op_int Try.underlying3 (by kernel_rfl)) (of_cons op32 (of_one (op_int Try.underlying3 (by kernel_rfl)))))
theorem walk (a0 : Option Addr) (cap0 : Nat) (z0 : List S34) (w : World) (w0 : Go.Proofs.YtomlnflblecpbaaW.PrintWords.Kd.C k34 w a0 z0.length z0) (l0 : z0.length ≤ cap0) (y0 : z0.length * Try.prog.bytesOf 34 ≤ reachBytes ∧ ∀ x ∈ z0, Fit34 x) :
    Calls Try.prog 3 #[.slice a0 z0.length cap0] w fun e w' => e = .returned (.bool true) ∧ Below w.heap.size w w' := by
  exact plays_calls w z0 w0 l0 (len34 y0.1)
set_option maxRecDepth 100000 in
theorem lifted (os : Os) (started : os.Started) (H : Type) (enc : TypeId × Value → H) :
    ReturnsInHanded {} Try.checked os 3 .any (Rows.keysPlaysSpec.pre6 enc Try.prog Try.f3 Rows.keysPlaysRow.domain false) (Rows.keysPlaysSpec.post enc Try.prog Try.f3 false true false false) := by
  refine returnsInHanded_of_change_sized (C := Try.checked) own started (by kernel_rfl) Try.func3
    (ChangeSpec.witness6 (enc := enc) (C := Try.checked) false ⟨#[], #[.slice none 0 0], []⟩ 8 (by kernel_rfl) (by kernel_rfl) (by kernel_rfl) (by kernel_rfl)) ?_
  intro W base args ds gs before hval0 hW hcnd hsz0 _
  have hsz : (DataW.weightsEach Try.prog (Try.f3.params.toList ++ Rows.keysPlaysSpec.plain.varTypes Try.prog) (ds ++ gs)).all (· ≤ reachBytes) = true := hsz0
  have hval : ∀ (j : Nat) t v, Try.f3.params[j]? = some t → args[j]? = some v → Value.okWide Try.prog W .any base t v := hval0
  have hW' := hW
  obtain ⟨p, q, hA0, hV, rfl, hfz, hnd⟩ := hW
  have hA : DataW.TrodAll enc Try.prog W 0 (fun _ => true) true Try.f3.params.toList args.toList ds p := hA0
  rw [Try.params3] at hA hval hsz
  obtain ⟨v0, vs0, d0, ds0, p0, q0, hargs, rfl, rfl, h0, r0⟩ := trodAll_cons hA
  obtain ⟨rfl, rfl, rfl⟩ := trodAll_nil r0
  obtain rfl : args = #[v0] := by cases args; simp_all
  obtain ⟨rfl, rfl⟩ := trodVars_none hV
  obtain ⟨a0, len0, cap0, rfl⟩ := okWide_slice Try.underlying22 (hval 0 22 v0 rfl rfl)
  have k0 := h0
  have lt0 : ∀ x ∈ p0, x.block < W.heap.size := by obtain ⟨m, hm⟩ := k0; exact DataW.trod_lt m _ _ _ hm
  obtain ⟨z0, ⟨A0, C0, e0, l0, w0⟩, y0⟩ := (op_slice Try.underlying22 (by kernel_rfl) op34).arg hsz (j := 0) (t := 22) rfl rfl h0
  obtain ⟨rfl, rfl, rfl⟩ : a0 = A0 ∧ len0 = z0.length ∧ cap0 = C0 := by simpa [Value.cells] using e0
  clear hA0 hval0 hsz0 hsz
  refine (walk a0 cap0 z0 W w0 l0 y0).mono fun e W' ⟨he, bel⟩ => ?_
  subst he
  exact ⟨_, rfl, _, _, _, [], _, [], hW', trodAll_mk1 (shut_bool Try.underlying4 _), (trodAll_cons_mk (Below.trod laidOut (by kernel_rfl) (of_decide_eq_true (by kernel_rfl)) k0 bel lt0) trodAll_mk0), rfl, bel.frame _, fun h => by cases h⟩
theorem over : Rows.keysPlaysRow.holds Try.pinned (OpenSpec.ofChange Rows.keysPlaysSpec) :=
  OpenClaim.holds_of_wide 3 Try.f3 rfl rfl rfl rfl rfl rfl rfl ⟨rfl, rfl, rfl, rfl, rfl⟩ rfl rfl rfl rfl rfl (by kernel_rfl) Try.func3 (by kernel_rfl)
    (of_decide_eq_true (by kernel_rfl)) (by unfold Func.isWrapper; first | (rw [if_pos (by decide +kernel)]; kernel_rfl) | (rw [if_neg (by decide +kernel)]; exact ⟨rfl, rfl⟩))
    (fun os started H enc _ => lifted os started H enc)
theorem proved : Rows.KeysPlaysSaid := over
#print axioms proved
end Go.Proofs.Ytomlnflblecpbaa.keysPlays
namespace Go.Proofs.Ytomlnflblecpbaa
/-- The row, under a short name, for the claim. -/
theorem keysPlays_holds : Rows.KeysPlaysSaid := keysPlays.proved
end Go.Proofs.Ytomlnflblecpbaa
