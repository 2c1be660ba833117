/-
  No cell of these rows narrows 'for every input' (looked for: loops, veiled, ifaces, maps, wideKeys, modest, calm, conditions, laid).
  DERIVED. THE GIVEN ROWS OF THIS SEAT. 5 by the template 'for every input the law returns true; each argument reads behind the call as it read before'; 0 by the template 'total and deterministic' (their statements: YtoaokmlpeijepaaTotals.lean).
  GIVEN WITH THE SEED: the statements are not yours to turn. If you find one false, say at which input.
  Laid BY PROGRAM, IN A SANDBOX (cutbox-rows.mjs): the forced cells as the released guide's own fill.sh prints them over the translation 7ba9829c4d0cdb41… (all of the seat's roots in one cut). By AI agents, Wed Nov 11 2026. No macro, syntax, notation, axiom, sorry.
-/
import Derived.Test.YtoaokmlpeijepaaChecked
import GoSem.Claim
import GoSem.ClaimJoined
import GoSem.ClaimMapViews
import Derived.JoinedTies
import Derived.KernelRfl
namespace Go.Proofs.Ytoaokmlpeijepaa
/- THE CELL 'sum', in the pinned program and in every row, IS THE sha256 OF THE DUMP (.gsa) THAT YtoaokmlpeijepaaProg.lean LOADS. Nothing in Lean hashes anything: it is a label: what it is worth is what the hold of that sum in a sandbox is worth. -/
noncomputable def Try.pinned : Pinned := { name := "ytoaokmlpeijepaa", sum := "7ba9829c4d0cdb4127132012e091c279a29a6132b6bd58ee1b10138987abd790", checked := Try.checked }
namespace Rows
def none {H : Type} : Left H := { results := [], args := [] }

/-- 'souterrainlaw06.CutPlays': WHATEVER THE INPUT: true; the input reads as it did. -/
def cutPlaysSpec : ChangeSpec := { name := "cutPlays", fn := fun _ => fun
  | [d1, d2] => { results := [.lit (.bool true)], args := [d1, d2] }
  | _ => none }
def cutPlaysRow : OpenClaim := { program := "ytoaokmlpeijepaa", sum := "7ba9829c4d0cdb4127132012e091c279a29a6132b6bd58ee1b10138987abd790", func := "souterrain/souterrainlaw06.CutPlays", spec := "cutPlays", unfollowed := true, recurses := true, apart := false }
def CutPlaysSaid : Prop := cutPlaysRow.holds Try.pinned (OpenSpec.ofChange cutPlaysSpec)

/-- ITS FALSE NEIGHBOUR: 'it returns false'. Refute it at one input. -/
def cutPlaysWrong : ChangeSpec := { name := "cutPlays", fn := fun _ => fun
  | [d1, d2] => { results := [.lit (.bool false)], args := [d1, d2] }
  | _ => none }
def CutPlaysWrongFalsely : Prop := cutPlaysRow.holds Try.pinned (OpenSpec.ofChange cutPlaysWrong)

/-- 'souterrainlaw06.CutAll': WHATEVER THE INPUT: true; the input reads as it did. -/
def cutAllSpec : ChangeSpec := { name := "cutAll", fn := fun _ => fun
  | [d1, d2] => { results := [.lit (.bool true)], args := [d1, d2] }
  | _ => none }
def cutAllRow : OpenClaim := { program := "ytoaokmlpeijepaa", sum := "7ba9829c4d0cdb4127132012e091c279a29a6132b6bd58ee1b10138987abd790", func := "souterrain/souterrainlaw06.CutAll", spec := "cutAll", unfollowed := true, recurses := true, apart := false }
def CutAllSaid : Prop := cutAllRow.holds Try.pinned (OpenSpec.ofChange cutAllSpec)

/-- ITS FALSE NEIGHBOUR: 'it returns false'. Refute it at one input. -/
def cutAllWrong : ChangeSpec := { name := "cutAll", fn := fun _ => fun
  | [d1, d2] => { results := [.lit (.bool false)], args := [d1, d2] }
  | _ => none }
def CutAllWrongFalsely : Prop := cutAllRow.holds Try.pinned (OpenSpec.ofChange cutAllWrong)

/-- 'souterrainlaw06.CutParted': WHATEVER THE INPUT: true; the input reads as it did. -/
def cutPartedSpec : ChangeSpec := { name := "cutParted", fn := fun _ => fun
  | [d1, d2, d3] => { results := [.lit (.bool true)], args := [d1, d2, d3] }
  | _ => none }
def cutPartedRow : OpenClaim := { program := "ytoaokmlpeijepaa", sum := "7ba9829c4d0cdb4127132012e091c279a29a6132b6bd58ee1b10138987abd790", func := "souterrain/souterrainlaw06.CutParted", spec := "cutParted", unfollowed := true, recurses := true, apart := false }
def CutPartedSaid : Prop := cutPartedRow.holds Try.pinned (OpenSpec.ofChange cutPartedSpec)

/-- ITS FALSE NEIGHBOUR: 'it returns false'. Refute it at one input. -/
def cutPartedWrong : ChangeSpec := { name := "cutParted", fn := fun _ => fun
  | [d1, d2, d3] => { results := [.lit (.bool false)], args := [d1, d2, d3] }
  | _ => none }
def CutPartedWrongFalsely : Prop := cutPartedRow.holds Try.pinned (OpenSpec.ofChange cutPartedWrong)

/-- 'souterrainlaw06.CutStill': WHATEVER THE INPUT: true; the input reads as it did. -/
def cutStillSpec : ChangeSpec := { name := "cutStill", fn := fun _ => fun
  | [d1, d2] => { results := [.lit (.bool true)], args := [d1, d2] }
  | _ => none }
def cutStillRow : OpenClaim := { program := "ytoaokmlpeijepaa", sum := "7ba9829c4d0cdb4127132012e091c279a29a6132b6bd58ee1b10138987abd790", func := "souterrain/souterrainlaw06.CutStill", spec := "cutStill", unfollowed := true, recurses := true, apart := false }
def CutStillSaid : Prop := cutStillRow.holds Try.pinned (OpenSpec.ofChange cutStillSpec)

/-- ITS FALSE NEIGHBOUR: 'it returns false'. Refute it at one input. -/
def cutStillWrong : ChangeSpec := { name := "cutStill", fn := fun _ => fun
  | [d1, d2] => { results := [.lit (.bool false)], args := [d1, d2] }
  | _ => none }
def CutStillWrongFalsely : Prop := cutStillRow.holds Try.pinned (OpenSpec.ofChange cutStillWrong)

/-- 'souterrainlaw06.CutMany': WHATEVER THE INPUT: true; the input reads as it did. -/
def cutManySpec : ChangeSpec := { name := "cutMany", fn := fun _ => fun
  | [d1, d2] => { results := [.lit (.bool true)], args := [d1, d2] }
  | _ => none }
def cutManyRow : OpenClaim := { program := "ytoaokmlpeijepaa", sum := "7ba9829c4d0cdb4127132012e091c279a29a6132b6bd58ee1b10138987abd790", func := "souterrain/souterrainlaw06.CutMany", spec := "cutMany", unfollowed := true, recurses := true, apart := false }
def CutManySaid : Prop := cutManyRow.holds Try.pinned (OpenSpec.ofChange cutManySpec)

/-- ITS FALSE NEIGHBOUR: 'it returns false'. Refute it at one input. -/
def cutManyWrong : ChangeSpec := { name := "cutMany", fn := fun _ => fun
  | [d1, d2] => { results := [.lit (.bool false)], args := [d1, d2] }
  | _ => none }
def CutManyWrongFalsely : Prop := cutManyRow.holds Try.pinned (OpenSpec.ofChange cutManyWrong)

/- THE SECOND FORM. 'bulk': how many values and letters a reading holds, each counted each time it is reached (what is shared counts as often as it is met; a slice's spare places count too). A statement '..UptoSaid' is the law's where the arguments, and the package variables that the reading takes, are together of bulk at most 1048576: NARROWER than '..Said'. Prove '..Said' where nothing that the law and all that it calls make is longer than what came in: it says more and counts as full. Else prove '..UptoSaid'. A law counts once. -/
mutual
def uptoBulk {H : Type} : DataW H → Nat
  | .lit (.string bytes) => bytes.length + 1
  | .lit _ => 1
  | .nil => 1
  | .ptr d => uptoBulk d + 1
  | .slice elems spare => uptoBulkAll elems + uptoBulkAll spare + 1
  | .agg parts => uptoBulkAll parts + 1
  | .iface _ d => uptoBulk d + 1
  | .map entries => uptoBulkEntries entries + 1
  | .held _ => 1
def uptoBulkAll {H : Type} : List (DataW H) → Nat
  | [] => 0
  | d :: r => uptoBulk d + uptoBulkAll r
def uptoBulkEntries {H : Type} : List (Lit × DataW H) → Nat
  | [] => 0
  | x :: r => uptoBulkEntry x + uptoBulkEntries r
def uptoBulkEntry {H : Type} : Lit × DataW H → Nat
  | (.string bytes, d) => bytes.length + uptoBulk d + 1
  | (_, d) => uptoBulk d + 1
 end
def uptoSmall : (H : Type) → List (DataW H) → Bool := fun _ ds => decide (uptoBulkAll ds ≤ 1048576)
def OpenSpec.upto (s : _root_.Go.ChangeSpec) : _root_.Go.OpenSpec := { _root_.Go.OpenSpec.ofChange s with cond := some uptoSmall }

/-- 'souterrainlaw06.CutPlays', WHERE WHAT IT READS IS OF BULK AT MOST 1048576: true; the input reads as it did. -/
def cutPlaysUptoRow : OpenClaim := { program := "ytoaokmlpeijepaa", sum := "7ba9829c4d0cdb4127132012e091c279a29a6132b6bd58ee1b10138987abd790", func := "souterrain/souterrainlaw06.CutPlays", spec := "cutPlays", unfollowed := true, recurses := true, apart := false, narrowed := true }
def CutPlaysUptoSaid : Prop := cutPlaysUptoRow.holds Try.pinned (OpenSpec.upto cutPlaysSpec)

/-- 'souterrainlaw06.CutAll', WHERE WHAT IT READS IS OF BULK AT MOST 1048576: true; the input reads as it did. -/
def cutAllUptoRow : OpenClaim := { program := "ytoaokmlpeijepaa", sum := "7ba9829c4d0cdb4127132012e091c279a29a6132b6bd58ee1b10138987abd790", func := "souterrain/souterrainlaw06.CutAll", spec := "cutAll", unfollowed := true, recurses := true, apart := false, narrowed := true }
def CutAllUptoSaid : Prop := cutAllUptoRow.holds Try.pinned (OpenSpec.upto cutAllSpec)

/-- 'souterrainlaw06.CutParted', WHERE WHAT IT READS IS OF BULK AT MOST 1048576: true; the input reads as it did. -/
def cutPartedUptoRow : OpenClaim := { program := "ytoaokmlpeijepaa", sum := "7ba9829c4d0cdb4127132012e091c279a29a6132b6bd58ee1b10138987abd790", func := "souterrain/souterrainlaw06.CutParted", spec := "cutParted", unfollowed := true, recurses := true, apart := false, narrowed := true }
def CutPartedUptoSaid : Prop := cutPartedUptoRow.holds Try.pinned (OpenSpec.upto cutPartedSpec)

/-- 'souterrainlaw06.CutStill', WHERE WHAT IT READS IS OF BULK AT MOST 1048576: true; the input reads as it did. -/
def cutStillUptoRow : OpenClaim := { program := "ytoaokmlpeijepaa", sum := "7ba9829c4d0cdb4127132012e091c279a29a6132b6bd58ee1b10138987abd790", func := "souterrain/souterrainlaw06.CutStill", spec := "cutStill", unfollowed := true, recurses := true, apart := false, narrowed := true }
def CutStillUptoSaid : Prop := cutStillUptoRow.holds Try.pinned (OpenSpec.upto cutStillSpec)

/-- 'souterrainlaw06.CutMany', WHERE WHAT IT READS IS OF BULK AT MOST 1048576: true; the input reads as it did. -/
def cutManyUptoRow : OpenClaim := { program := "ytoaokmlpeijepaa", sum := "7ba9829c4d0cdb4127132012e091c279a29a6132b6bd58ee1b10138987abd790", func := "souterrain/souterrainlaw06.CutMany", spec := "cutMany", unfollowed := true, recurses := true, apart := false, narrowed := true }
def CutManyUptoSaid : Prop := cutManyUptoRow.holds Try.pinned (OpenSpec.upto cutManySpec)

end Rows
end Go.Proofs.Ytoaokmlpeijepaa
