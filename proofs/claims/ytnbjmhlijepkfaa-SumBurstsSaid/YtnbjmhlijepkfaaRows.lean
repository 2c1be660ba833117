/-
  No cell of these rows narrows 'for every input' (looked for: loops, veiled, ifaces, maps, wideKeys, modest, calm, conditions, laid).
  DERIVED. THE GIVEN ROWS OF THIS SEAT. 6 by the template 'for every input the law returns true; each argument reads behind the call as it read before'; 0 by the template 'total and deterministic' (their statements: YtnbjmhlijepkfaaTotals.lean).
  GIVEN WITH THE SEED: the statements are not yours to turn. If you find one false, say at which input.
  Laid BY PROGRAM, IN A SANDBOX (cutbox-rows.mjs): the forced cells as the released guide's own fill.sh prints them over the translation a4c7bcf5f7475890… (all of the seat's roots in one cut). By AI agents, Wed Nov 11 2026. No macro, syntax, notation, axiom, sorry.
-/
import Derived.Test.YtnbjmhlijepkfaaChecked
import GoSem.Claim
import GoSem.ClaimJoined
import GoSem.ClaimMapViews
import Derived.JoinedTies
import Derived.KernelRfl
namespace Go.Proofs.Ytnbjmhlijepkfaa
/- THE CELL 'sum', in the pinned program and in every row, IS THE sha256 OF THE DUMP (.gsa) THAT YtnbjmhlijepkfaaProg.lean LOADS. Nothing in Lean hashes anything: it is a label: what it is worth is what the hold of that sum in a sandbox is worth. -/
noncomputable def Try.pinned : Pinned := { name := "ytnbjmhlijepkfaa", sum := "a4c7bcf5f74758900195b13ad189b49fc93a1bab4fadb2b52361a8ca0e4467aa", checked := Try.checked }
namespace Rows
def none {H : Type} : Left H := { results := [], args := [] }

/-- 'souterrainlaw01.SumTells': WHATEVER THE INPUT: true; the input reads as it did. -/
def sumTellsSpec : ChangeSpec := { name := "sumTells", fn := fun _ => fun
  | [d1, d2, d3] => { results := [.lit (.bool true)], args := [d1, d2, d3] }
  | _ => none }
def sumTellsRow : OpenClaim := { program := "ytnbjmhlijepkfaa", sum := "a4c7bcf5f74758900195b13ad189b49fc93a1bab4fadb2b52361a8ca0e4467aa", func := "souterrain/souterrainlaw01.SumTells", spec := "sumTells", apart := false }
def SumTellsSaid : Prop := sumTellsRow.holds Try.pinned (OpenSpec.ofChange sumTellsSpec)

/-- ITS FALSE NEIGHBOUR: 'it returns false'. Refute it at one input. -/
def sumTellsWrong : ChangeSpec := { name := "sumTells", fn := fun _ => fun
  | [d1, d2, d3] => { results := [.lit (.bool false)], args := [d1, d2, d3] }
  | _ => none }
def SumTellsWrongFalsely : Prop := sumTellsRow.holds Try.pinned (OpenSpec.ofChange sumTellsWrong)

/-- 'souterrainlaw01.SumOn': WHATEVER THE INPUT: true; the input reads as it did. -/
def sumOnSpec : ChangeSpec := { name := "sumOn", fn := fun _ => fun
  | [d1, d2, d3, d4] => { results := [.lit (.bool true)], args := [d1, d2, d3, d4] }
  | _ => none }
def sumOnRow : OpenClaim := { program := "ytnbjmhlijepkfaa", sum := "a4c7bcf5f74758900195b13ad189b49fc93a1bab4fadb2b52361a8ca0e4467aa", func := "souterrain/souterrainlaw01.SumOn", spec := "sumOn", apart := false }
def SumOnSaid : Prop := sumOnRow.holds Try.pinned (OpenSpec.ofChange sumOnSpec)

/-- ITS FALSE NEIGHBOUR: 'it returns false'. Refute it at one input. -/
def sumOnWrong : ChangeSpec := { name := "sumOn", fn := fun _ => fun
  | [d1, d2, d3, d4] => { results := [.lit (.bool false)], args := [d1, d2, d3, d4] }
  | _ => none }
def SumOnWrongFalsely : Prop := sumOnRow.holds Try.pinned (OpenSpec.ofChange sumOnWrong)

/-- 'souterrainlaw01.SumBursts': WHATEVER THE INPUT: true; the input reads as it did. -/
def sumBurstsSpec : ChangeSpec := { name := "sumBursts", fn := fun _ => fun
  | [d1, d2, d3] => { results := [.lit (.bool true)], args := [d1, d2, d3] }
  | _ => none }
def sumBurstsRow : OpenClaim := { program := "ytnbjmhlijepkfaa", sum := "a4c7bcf5f74758900195b13ad189b49fc93a1bab4fadb2b52361a8ca0e4467aa", func := "souterrain/souterrainlaw01.SumBursts", spec := "sumBursts", apart := false }
def SumBurstsSaid : Prop := sumBurstsRow.holds Try.pinned (OpenSpec.ofChange sumBurstsSpec)

/-- ITS FALSE NEIGHBOUR: 'it returns false'. Refute it at one input. -/
def sumBurstsWrong : ChangeSpec := { name := "sumBursts", fn := fun _ => fun
  | [d1, d2, d3] => { results := [.lit (.bool false)], args := [d1, d2, d3] }
  | _ => none }
def SumBurstsWrongFalsely : Prop := sumBurstsRow.holds Try.pinned (OpenSpec.ofChange sumBurstsWrong)

/-- 'souterrainlaw01.SumXor': WHATEVER THE INPUT: true; the input reads as it did. -/
def sumXorSpec : ChangeSpec := { name := "sumXor", fn := fun _ => fun
  | [d1, d2] => { results := [.lit (.bool true)], args := [d1, d2] }
  | _ => none }
def sumXorRow : OpenClaim := { program := "ytnbjmhlijepkfaa", sum := "a4c7bcf5f74758900195b13ad189b49fc93a1bab4fadb2b52361a8ca0e4467aa", func := "souterrain/souterrainlaw01.SumXor", spec := "sumXor", apart := false }
def SumXorSaid : Prop := sumXorRow.holds Try.pinned (OpenSpec.ofChange sumXorSpec)

/-- ITS FALSE NEIGHBOUR: 'it returns false'. Refute it at one input. -/
def sumXorWrong : ChangeSpec := { name := "sumXor", fn := fun _ => fun
  | [d1, d2] => { results := [.lit (.bool false)], args := [d1, d2] }
  | _ => none }
def SumXorWrongFalsely : Prop := sumXorRow.holds Try.pinned (OpenSpec.ofChange sumXorWrong)

/-- 'souterrainlaw01.SumTable': WHATEVER THE INPUT: true; the input reads as it did. -/
def sumTableSpec : ChangeSpec := { name := "sumTable", fn := fun _ => fun
  | [d1, d2] => { results := [.lit (.bool true)], args := [d1, d2] }
  | _ => none }
def sumTableRow : OpenClaim := { program := "ytnbjmhlijepkfaa", sum := "a4c7bcf5f74758900195b13ad189b49fc93a1bab4fadb2b52361a8ca0e4467aa", func := "souterrain/souterrainlaw01.SumTable", spec := "sumTable", apart := false }
def SumTableSaid : Prop := sumTableRow.holds Try.pinned (OpenSpec.ofChange sumTableSpec)

/-- ITS FALSE NEIGHBOUR: 'it returns false'. Refute it at one input. -/
def sumTableWrong : ChangeSpec := { name := "sumTable", fn := fun _ => fun
  | [d1, d2] => { results := [.lit (.bool false)], args := [d1, d2] }
  | _ => none }
def SumTableWrongFalsely : Prop := sumTableRow.holds Try.pinned (OpenSpec.ofChange sumTableWrong)

/-- 'souterrainlaw01.SumZero': WHATEVER THE INPUT: true; the input reads as it did. -/
def sumZeroSpec : ChangeSpec := { name := "sumZero", fn := fun _ => fun
  | [d1, d2] => { results := [.lit (.bool true)], args := [d1, d2] }
  | _ => none }
def sumZeroRow : OpenClaim := { program := "ytnbjmhlijepkfaa", sum := "a4c7bcf5f74758900195b13ad189b49fc93a1bab4fadb2b52361a8ca0e4467aa", func := "souterrain/souterrainlaw01.SumZero", spec := "sumZero", apart := false }
def SumZeroSaid : Prop := sumZeroRow.holds Try.pinned (OpenSpec.ofChange sumZeroSpec)

/-- ITS FALSE NEIGHBOUR: 'it returns false'. Refute it at one input. -/
def sumZeroWrong : ChangeSpec := { name := "sumZero", fn := fun _ => fun
  | [d1, d2] => { results := [.lit (.bool false)], args := [d1, d2] }
  | _ => none }
def SumZeroWrongFalsely : Prop := sumZeroRow.holds Try.pinned (OpenSpec.ofChange sumZeroWrong)

/- THE SECOND FORM. 'bulk': how many values and letters a reading holds, each counted each time it is reached (what is shared counts as often as it is met; a slice's spare places count too). A statement '..UptoSaid' is the law's where the arguments, and the package variables that the reading takes, are together of bulk at most 1048576: NARROWER than '..Said'. Prove '..Said' where nothing that the law and all that it calls make is longer than what came in: it says more and counts as full. Else prove '..UptoSaid'. A law counts once. -/
mutual
def uptoBulk {H : Type} : DataW H → Nat
  | .lit (.string bytes) => bytes.length + 1
  | .lit _ => 1
  | .nil => 1
  | .ptr d => uptoBulk d + 1
  | .slice elems spare => uptoBulkAll elems + uptoBulkAll spare + 1
  | .agg parts => uptoBulkAll parts + 1
  | .iface _ d => uptoBulk d + 1
  | .map entries => uptoBulkEntries entries + 1
  | .held _ => 1
def uptoBulkAll {H : Type} : List (DataW H) → Nat
  | [] => 0
  | d :: r => uptoBulk d + uptoBulkAll r
def uptoBulkEntries {H : Type} : List (Lit × DataW H) → Nat
  | [] => 0
  | x :: r => uptoBulkEntry x + uptoBulkEntries r
def uptoBulkEntry {H : Type} : Lit × DataW H → Nat
  | (.string bytes, d) => bytes.length + uptoBulk d + 1
  | (_, d) => uptoBulk d + 1
 end
def uptoSmall : (H : Type) → List (DataW H) → Bool := fun _ ds => decide (uptoBulkAll ds ≤ 1048576)
def OpenSpec.upto (s : _root_.Go.ChangeSpec) : _root_.Go.OpenSpec := { _root_.Go.OpenSpec.ofChange s with cond := some uptoSmall }

/-- 'souterrainlaw01.SumTells', WHERE WHAT IT READS IS OF BULK AT MOST 1048576: true; the input reads as it did. -/
def sumTellsUptoRow : OpenClaim := { program := "ytnbjmhlijepkfaa", sum := "a4c7bcf5f74758900195b13ad189b49fc93a1bab4fadb2b52361a8ca0e4467aa", func := "souterrain/souterrainlaw01.SumTells", spec := "sumTells", apart := false, narrowed := true }
def SumTellsUptoSaid : Prop := sumTellsUptoRow.holds Try.pinned (OpenSpec.upto sumTellsSpec)

/-- 'souterrainlaw01.SumOn', WHERE WHAT IT READS IS OF BULK AT MOST 1048576: true; the input reads as it did. -/
def sumOnUptoRow : OpenClaim := { program := "ytnbjmhlijepkfaa", sum := "a4c7bcf5f74758900195b13ad189b49fc93a1bab4fadb2b52361a8ca0e4467aa", func := "souterrain/souterrainlaw01.SumOn", spec := "sumOn", apart := false, narrowed := true }
def SumOnUptoSaid : Prop := sumOnUptoRow.holds Try.pinned (OpenSpec.upto sumOnSpec)

/-- 'souterrainlaw01.SumBursts', WHERE WHAT IT READS IS OF BULK AT MOST 1048576: true; the input reads as it did. -/
def sumBurstsUptoRow : OpenClaim := { program := "ytnbjmhlijepkfaa", sum := "a4c7bcf5f74758900195b13ad189b49fc93a1bab4fadb2b52361a8ca0e4467aa", func := "souterrain/souterrainlaw01.SumBursts", spec := "sumBursts", apart := false, narrowed := true }
def SumBurstsUptoSaid : Prop := sumBurstsUptoRow.holds Try.pinned (OpenSpec.upto sumBurstsSpec)

/-- 'souterrainlaw01.SumXor', WHERE WHAT IT READS IS OF BULK AT MOST 1048576: true; the input reads as it did. -/
def sumXorUptoRow : OpenClaim := { program := "ytnbjmhlijepkfaa", sum := "a4c7bcf5f74758900195b13ad189b49fc93a1bab4fadb2b52361a8ca0e4467aa", func := "souterrain/souterrainlaw01.SumXor", spec := "sumXor", apart := false, narrowed := true }
def SumXorUptoSaid : Prop := sumXorUptoRow.holds Try.pinned (OpenSpec.upto sumXorSpec)

/-- 'souterrainlaw01.SumTable', WHERE WHAT IT READS IS OF BULK AT MOST 1048576: true; the input reads as it did. -/
def sumTableUptoRow : OpenClaim := { program := "ytnbjmhlijepkfaa", sum := "a4c7bcf5f74758900195b13ad189b49fc93a1bab4fadb2b52361a8ca0e4467aa", func := "souterrain/souterrainlaw01.SumTable", spec := "sumTable", apart := false, narrowed := true }
def SumTableUptoSaid : Prop := sumTableUptoRow.holds Try.pinned (OpenSpec.upto sumTableSpec)

/-- 'souterrainlaw01.SumZero', WHERE WHAT IT READS IS OF BULK AT MOST 1048576: true; the input reads as it did. -/
def sumZeroUptoRow : OpenClaim := { program := "ytnbjmhlijepkfaa", sum := "a4c7bcf5f74758900195b13ad189b49fc93a1bab4fadb2b52361a8ca0e4467aa", func := "souterrain/souterrainlaw01.SumZero", spec := "sumZero", apart := false, narrowed := true }
def SumZeroUptoSaid : Prop := sumZeroUptoRow.holds Try.pinned (OpenSpec.upto sumZeroSpec)

end Rows
end Go.Proofs.Ytnbjmhlijepkfaa
