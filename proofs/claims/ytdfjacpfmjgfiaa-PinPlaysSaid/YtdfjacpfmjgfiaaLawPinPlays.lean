-- The law PinPlays: its row, printed by wip/lawtext.py of this repository.
import Derived.Test.YtdfjacpfmjgfiaaRows
import Derived.Test.YtdfjacpfmjgfiaaPlays
import Derived.Test.YtdfjacpfmjgfiaaOpens
import Derived.WalkKit
import Derived.ProofKit
import Derived.OpenShut
import Derived.ShutString
import Derived.ChangeOld
import Derived.Below
import Derived.SizedLaws
import Derived.Deep.Strs
import Derived.Deep.Matrix
import Derived.Test.YtdfjacpfmjgfiaaWSized
namespace Go.Proofs.Ytdfjacpfmjgfiaa.pinPlays
open Go.ChangeShapes Go.WideShapes Go.ChangeAt Go.RowKit
open Go.ChangeMaps (open_string shut_string)
set_option linter.unusedVariables false
set_option linter.unusedSimpArgs false
theorem own : ownKnob Try.prog.godebug = none := by kernel_rfl
theorem laidOut : laidOutB Try.prog = true := by kernel_rfl
def IsRow (k : IntKind) (w : World) (a : Option Addr) (len cap : Nat) (zs : List Int) : Prop :=
  (a = none ∧ len = 0 ∧ cap = 0 ∧ zs = []) ∨
  ∃ x, a = some x ∧ len ≤ cap ∧ cap ≤ maxLen ∧ zs.length = cap ∧ (∀ i, i < zs.length → w.cell? (x.add i) = some (.int k (zs.getD i 0))) ∧ ∀ n ∈ zs, (Lit.int k n).wf = true
theorem row_reads {W : World} {a : Option Addr} {len cap : Nat} {zs : List Int} (h : IsRow .i64 W a len cap zs) : Go.Proofs.YtdfjacpfmjgfiaaW.PrintWords.ReadsInt W .i64 a len (zs.take len) ∧ len ≤ cap := by
  rcases h with ⟨rfl, rfl, rfl, rfl⟩ | ⟨x, rfl, hl, hm, hz, hc, _⟩
  · exact ⟨⟨rfl, by decide, fun h => absurd h (Nat.lt_irrefl 0)⟩, Nat.le_refl _⟩
  · refine ⟨⟨by rw [List.length_take]; omega, by simp only [maxLen] at hm; omega, fun _ => ⟨x, rfl, fun j hj => ?_⟩⟩, hl⟩
    rw [hc j (by omega)]
    simp [List.getD_eq_getElem?_getD, List.getElem?_take, hj]
theorem range8 {n : Int} (h : (Lit.int .u8 n).wf = true) : 0 ≤ n ∧ n < 256 := by
  simp [Lit.wf, IntKind.min, IntKind.max, IntKind.bits, IntKind.signed] at h
  omega
open PPinPlays (S31 k31)
theorem len31 {n : Nat} (h : n * Try.prog.bytesOf 31 ≤ reachBytes) : n ≤ 4611686018427387904 := by
  have e : Try.prog.bytesOf 31 = 48 := by kernel_rfl
  rw [e] at h
  have : reachBytes ≤ 4611686018427387904 := by decide
  omega
theorem op31 {H : Type} {enc : TypeId × Value → H} {W : World} : Opener enc Try.prog W 31 k31 (fun b : S31 => (Lit.int .i64 b.f0).wf = true ∧ (Lit.int .i64 b.f1).wf = true ∧ (Lit.int .i64 b.f2).wf = true ∧ (b.f3.length * Try.prog.bytesOf 3 ≤ reachBytes ∧ ∀ x ∈ b.f3, (Lit.int .i64 x).wf = true)) :=
  op_struct (fun x : S31 => (x.f0, x.f1, x.f2, x.f3)) (fun y => ⟨y.1, y.2.1, y.2.2.1, y.2.2.2⟩) (fun _ => rfl) Try.underlying31 (by kernel_rfl) (of_cons (op_int Try.underlying3 (by kernel_rfl)) (of_cons (op_int Try.underlying3 (by kernel_rfl)) (of_cons (op_int Try.underlying3 (by kernel_rfl)) (of_one (op_slice Try.underlying29 (by kernel_rfl) (op_int Try.underlying3 (by kernel_rfl)))))))
theorem walk (a0 : Int) (a1 : Option Addr) (cap1 : Nat) (z1 : List S31) (w : World) (w1 : Go.Proofs.YtdfjacpfmjgfiaaW.PrintWords.Kd.C k31 w a1 z1.length z1) (l1 : z1.length ≤ cap1) (y1 : z1.length * Try.prog.bytesOf 31 ≤ reachBytes ∧ ∀ x ∈ z1, (Lit.int .i64 x.f0).wf = true ∧ (Lit.int .i64 x.f1).wf = true ∧ (Lit.int .i64 x.f2).wf = true ∧ (x.f3.length * Try.prog.bytesOf 3 ≤ reachBytes ∧ ∀ y ∈ x.f3, (Lit.int .i64 y).wf = true)) :
    Calls Try.prog 3 #[.int .i64 a0, .slice a1 z1.length cap1] w fun e w' => e = .returned (.bool true) ∧ Below w.heap.size w w' :=
  plays_calls w a0 z1 w1 l1 (len31 y1.1)
set_option maxRecDepth 100000 in
theorem lifted (os : Os) (started : os.Started) (H : Type) (enc : TypeId × Value → H) :
    ReturnsInHanded {} Try.checked os 3 .any (Rows.pinPlaysSpec.pre6 enc Try.prog Try.f3 Rows.pinPlaysRow.domain false) (Rows.pinPlaysSpec.post enc Try.prog Try.f3 false true false false) := by
  refine returnsInHanded_of_change_sized (C := Try.checked) own started (by kernel_rfl) Try.func3
    (ChangeSpec.witness6 (enc := enc) (C := Try.checked) false ⟨#[], #[.int .i64 0, .slice none 0 0], []⟩ 8 (by kernel_rfl) (by kernel_rfl) (by kernel_rfl) (by kernel_rfl)) ?_
  intro W base args ds gs before hval0 hW hcnd hsz0 _
  have hsz : (DataW.weightsEach Try.prog (Try.f3.params.toList ++ Rows.pinPlaysSpec.plain.varTypes Try.prog) (ds ++ gs)).all (· ≤ reachBytes) = true := hsz0
  have hval : ∀ (j : Nat) t v, Try.f3.params[j]? = some t → args[j]? = some v → Value.okWide Try.prog W .any base t v := hval0
  have hW' := hW
  obtain ⟨p, q, hA0, hV, rfl, hfz, hnd⟩ := hW
  have hA : DataW.TrodAll enc Try.prog W 0 (fun _ => true) true Try.f3.params.toList args.toList ds p := hA0
  rw [Try.params3] at hA hval hsz
  obtain ⟨v0, vs0, d0, ds0, p0, q0, hargs, rfl, rfl, h0, r0⟩ := trodAll_cons hA
  obtain ⟨v1, vs1, d1, ds1, p1, q1, rfl, rfl, rfl, h1, r1⟩ := trodAll_cons r0
  obtain ⟨rfl, rfl, rfl⟩ := trodAll_nil r1
  obtain rfl : args = #[v0, v1] := by cases args; simp_all
  obtain ⟨rfl, rfl⟩ := trodVars_none hV
  obtain ⟨a0, rfl, rfl, rfl, w0⟩ := open_int Try.underlying3 (hval 0 3 v0 rfl rfl) h0
  obtain ⟨a1, len1, cap1, rfl⟩ := okWide_slice Try.underlying22 (hval 1 22 v1 rfl rfl)
  have k1 := h1
  have lt1 : ∀ x ∈ p1, x.block < W.heap.size := by obtain ⟨m, hm⟩ := k1; exact DataW.trod_lt m _ _ _ hm
  obtain ⟨z1, ⟨A1, C1, e1, l1, w1⟩, y1⟩ := (op_slice Try.underlying22 (by kernel_rfl) op31).arg hsz (j := 1) (t := 22) rfl rfl h1
  obtain ⟨rfl, rfl, rfl⟩ : a1 = A1 ∧ len1 = z1.length ∧ cap1 = C1 := by simpa [Value.cells] using e1
  clear hA0 hval0 hsz0 hsz
  refine (walk a0 a1 cap1 z1 W w1 l1 y1).mono fun e W' ⟨he, bel⟩ => ?_
  subst he
  exact ⟨_, rfl, _, _, _, [], _, [], hW', trodAll_mk1 (shut_bool Try.underlying4 _), (trodAll_cons_mk (shut_int Try.underlying3 w0) (trodAll_cons_mk (Below.trod laidOut (by kernel_rfl) (of_decide_eq_true (by kernel_rfl)) k1 bel lt1) trodAll_mk0)), rfl, bel.frame _, fun h => by cases h⟩
theorem over : Rows.pinPlaysRow.holds Try.pinned (OpenSpec.ofChange Rows.pinPlaysSpec) :=
  OpenClaim.holds_of_wide 3 Try.f3 rfl rfl rfl rfl rfl rfl rfl ⟨rfl, rfl, rfl, rfl, rfl⟩ rfl rfl rfl rfl rfl (by kernel_rfl) Try.func3 (by kernel_rfl)
    (of_decide_eq_true (by kernel_rfl)) (by unfold Func.isWrapper; first | (rw [if_pos (by decide +kernel)]; kernel_rfl) | (rw [if_neg (by decide +kernel)]; exact ⟨rfl, rfl⟩))
    (fun os started H enc _ => lifted os started H enc)
theorem proved : Rows.PinPlaysSaid := over
#print axioms proved
end Go.Proofs.Ytdfjacpfmjgfiaa.pinPlays
namespace Go.Proofs.Ytdfjacpfmjgfiaa
/-- The row, under a short name, for the claim. -/
theorem pinPlays_holds : Rows.PinPlaysSaid := pinPlays.proved
end Go.Proofs.Ytdfjacpfmjgfiaa
