/-
  No cell of these rows narrows 'for every input' (looked for: loops, veiled, ifaces, maps, wideKeys, modest, calm, conditions, laid).
  DERIVED. THE GIVEN ROWS OF THIS SEAT. 5 by the template 'for every input the law returns true; each argument reads behind the call as it read before'; 0 by the template 'total and deterministic' (their statements: YtgolccldopofbaaTotals.lean).
  GIVEN WITH THE SEED: the statements are not yours to turn. If you find one false, say at which input.
  Laid BY PROGRAM, IN A SANDBOX (cutbox-rows.mjs): the forced cells as the released guide's own fill.sh prints them over the translation 4dd5c4a7883a0d55… (all of the seat's roots in one cut). By AI agents, Wed Nov 11 2026. No macro, syntax, notation, axiom, sorry.
-/
import Derived.Test.YtgolccldopofbaaChecked
import GoSem.Claim
import GoSem.ClaimJoined
import GoSem.ClaimMapViews
import Derived.JoinedTies
import Derived.KernelRfl
namespace Go.Proofs.Ytgolccldopofbaa
/- THE CELL 'sum', in the pinned program and in every row, IS THE sha256 OF THE DUMP (.gsa) THAT YtgolccldopofbaaProg.lean LOADS. Nothing in Lean hashes anything: it is a label: what it is worth is what the hold of that sum in a sandbox is worth. -/
noncomputable def Try.pinned : Pinned := { name := "ytgolccldopofbaa", sum := "4dd5c4a7883a0d55b1a795dc014402a10fb32e46b4ca60b41ba725665647d6b4", checked := Try.checked }
namespace Rows
def none {H : Type} : Left H := { results := [], args := [] }

/-- 'souterrainlaw05.NameTells': WHATEVER THE INPUT: true; the input reads as it did. -/
def nameTellsSpec : ChangeSpec := { name := "nameTells", fn := fun _ => fun
  | [d1, d2, d3, d4] => { results := [.lit (.bool true)], args := [d1, d2, d3, d4] }
  | _ => none }
def nameTellsRow : OpenClaim := { program := "ytgolccldopofbaa", sum := "4dd5c4a7883a0d55b1a795dc014402a10fb32e46b4ca60b41ba725665647d6b4", func := "souterrain/souterrainlaw05.NameTells", spec := "nameTells", recurses := true, apart := false }
def NameTellsSaid : Prop := nameTellsRow.holds Try.pinned (OpenSpec.ofChange nameTellsSpec)

/-- ITS FALSE NEIGHBOUR: 'it returns false'. Refute it at one input. -/
def nameTellsWrong : ChangeSpec := { name := "nameTells", fn := fun _ => fun
  | [d1, d2, d3, d4] => { results := [.lit (.bool false)], args := [d1, d2, d3, d4] }
  | _ => none }
def NameTellsWrongFalsely : Prop := nameTellsRow.holds Try.pinned (OpenSpec.ofChange nameTellsWrong)

/-- 'souterrainlaw05.NameBack': WHATEVER THE INPUT: true; the input reads as it did. -/
def nameBackSpec : ChangeSpec := { name := "nameBack", fn := fun _ => fun
  | [d1, d2, d3] => { results := [.lit (.bool true)], args := [d1, d2, d3] }
  | _ => none }
def nameBackRow : OpenClaim := { program := "ytgolccldopofbaa", sum := "4dd5c4a7883a0d55b1a795dc014402a10fb32e46b4ca60b41ba725665647d6b4", func := "souterrain/souterrainlaw05.NameBack", spec := "nameBack", recurses := true, apart := false }
def NameBackSaid : Prop := nameBackRow.holds Try.pinned (OpenSpec.ofChange nameBackSpec)

/-- ITS FALSE NEIGHBOUR: 'it returns false'. Refute it at one input. -/
def nameBackWrong : ChangeSpec := { name := "nameBack", fn := fun _ => fun
  | [d1, d2, d3] => { results := [.lit (.bool false)], args := [d1, d2, d3] }
  | _ => none }
def NameBackWrongFalsely : Prop := nameBackRow.holds Try.pinned (OpenSpec.ofChange nameBackWrong)

/-- 'souterrainlaw05.NameOrder': WHATEVER THE INPUT: true; the input reads as it did. -/
def nameOrderSpec : ChangeSpec := { name := "nameOrder", fn := fun _ => fun
  | [d1, d2] => { results := [.lit (.bool true)], args := [d1, d2] }
  | _ => none }
def nameOrderRow : OpenClaim := { program := "ytgolccldopofbaa", sum := "4dd5c4a7883a0d55b1a795dc014402a10fb32e46b4ca60b41ba725665647d6b4", func := "souterrain/souterrainlaw05.NameOrder", spec := "nameOrder", recurses := true, apart := false }
def NameOrderSaid : Prop := nameOrderRow.holds Try.pinned (OpenSpec.ofChange nameOrderSpec)

/-- ITS FALSE NEIGHBOUR: 'it returns false'. Refute it at one input. -/
def nameOrderWrong : ChangeSpec := { name := "nameOrder", fn := fun _ => fun
  | [d1, d2] => { results := [.lit (.bool false)], args := [d1, d2] }
  | _ => none }
def NameOrderWrongFalsely : Prop := nameOrderRow.holds Try.pinned (OpenSpec.ofChange nameOrderWrong)

/-- 'souterrainlaw05.NameAll': WHATEVER THE INPUT: true; the input reads as it did. -/
def nameAllSpec : ChangeSpec := { name := "nameAll", fn := fun _ => fun
  | [d1, d2] => { results := [.lit (.bool true)], args := [d1, d2] }
  | _ => none }
def nameAllRow : OpenClaim := { program := "ytgolccldopofbaa", sum := "4dd5c4a7883a0d55b1a795dc014402a10fb32e46b4ca60b41ba725665647d6b4", func := "souterrain/souterrainlaw05.NameAll", spec := "nameAll", recurses := true, apart := false }
def NameAllSaid : Prop := nameAllRow.holds Try.pinned (OpenSpec.ofChange nameAllSpec)

/-- ITS FALSE NEIGHBOUR: 'it returns false'. Refute it at one input. -/
def nameAllWrong : ChangeSpec := { name := "nameAll", fn := fun _ => fun
  | [d1, d2] => { results := [.lit (.bool false)], args := [d1, d2] }
  | _ => none }
def NameAllWrongFalsely : Prop := nameAllRow.holds Try.pinned (OpenSpec.ofChange nameAllWrong)

/-- 'souterrainlaw05.NameSorted': WHATEVER THE INPUT: true; the input reads as it did. -/
def nameSortedSpec : ChangeSpec := { name := "nameSorted", fn := fun _ => fun
  | [d1, d2] => { results := [.lit (.bool true)], args := [d1, d2] }
  | _ => none }
def nameSortedRow : OpenClaim := { program := "ytgolccldopofbaa", sum := "4dd5c4a7883a0d55b1a795dc014402a10fb32e46b4ca60b41ba725665647d6b4", func := "souterrain/souterrainlaw05.NameSorted", spec := "nameSorted", recurses := true, apart := false }
def NameSortedSaid : Prop := nameSortedRow.holds Try.pinned (OpenSpec.ofChange nameSortedSpec)

/-- ITS FALSE NEIGHBOUR: 'it returns false'. Refute it at one input. -/
def nameSortedWrong : ChangeSpec := { name := "nameSorted", fn := fun _ => fun
  | [d1, d2] => { results := [.lit (.bool false)], args := [d1, d2] }
  | _ => none }
def NameSortedWrongFalsely : Prop := nameSortedRow.holds Try.pinned (OpenSpec.ofChange nameSortedWrong)

/- THE SECOND FORM. 'bulk': how many values and letters a reading holds, each counted each time it is reached (what is shared counts as often as it is met; a slice's spare places count too). A statement '..UptoSaid' is the law's where the arguments, and the package variables that the reading takes, are together of bulk at most 1048576: NARROWER than '..Said'. Prove '..Said' where nothing that the law and all that it calls make is longer than what came in: it says more and counts as full. Else prove '..UptoSaid'. A law counts once. -/
mutual
def uptoBulk {H : Type} : DataW H → Nat
  | .lit (.string bytes) => bytes.length + 1
  | .lit _ => 1
  | .nil => 1
  | .ptr d => uptoBulk d + 1
  | .slice elems spare => uptoBulkAll elems + uptoBulkAll spare + 1
  | .agg parts => uptoBulkAll parts + 1
  | .iface _ d => uptoBulk d + 1
  | .map entries => uptoBulkEntries entries + 1
  | .held _ => 1
def uptoBulkAll {H : Type} : List (DataW H) → Nat
  | [] => 0
  | d :: r => uptoBulk d + uptoBulkAll r
def uptoBulkEntries {H : Type} : List (Lit × DataW H) → Nat
  | [] => 0
  | x :: r => uptoBulkEntry x + uptoBulkEntries r
def uptoBulkEntry {H : Type} : Lit × DataW H → Nat
  | (.string bytes, d) => bytes.length + uptoBulk d + 1
  | (_, d) => uptoBulk d + 1
 end
def uptoSmall : (H : Type) → List (DataW H) → Bool := fun _ ds => decide (uptoBulkAll ds ≤ 1048576)
def OpenSpec.upto (s : _root_.Go.ChangeSpec) : _root_.Go.OpenSpec := { _root_.Go.OpenSpec.ofChange s with cond := some uptoSmall }

/-- 'souterrainlaw05.NameTells', WHERE WHAT IT READS IS OF BULK AT MOST 1048576: true; the input reads as it did. -/
def nameTellsUptoRow : OpenClaim := { program := "ytgolccldopofbaa", sum := "4dd5c4a7883a0d55b1a795dc014402a10fb32e46b4ca60b41ba725665647d6b4", func := "souterrain/souterrainlaw05.NameTells", spec := "nameTells", recurses := true, apart := false, narrowed := true }
def NameTellsUptoSaid : Prop := nameTellsUptoRow.holds Try.pinned (OpenSpec.upto nameTellsSpec)

/-- 'souterrainlaw05.NameBack', WHERE WHAT IT READS IS OF BULK AT MOST 1048576: true; the input reads as it did. -/
def nameBackUptoRow : OpenClaim := { program := "ytgolccldopofbaa", sum := "4dd5c4a7883a0d55b1a795dc014402a10fb32e46b4ca60b41ba725665647d6b4", func := "souterrain/souterrainlaw05.NameBack", spec := "nameBack", recurses := true, apart := false, narrowed := true }
def NameBackUptoSaid : Prop := nameBackUptoRow.holds Try.pinned (OpenSpec.upto nameBackSpec)

/-- 'souterrainlaw05.NameOrder', WHERE WHAT IT READS IS OF BULK AT MOST 1048576: true; the input reads as it did. -/
def nameOrderUptoRow : OpenClaim := { program := "ytgolccldopofbaa", sum := "4dd5c4a7883a0d55b1a795dc014402a10fb32e46b4ca60b41ba725665647d6b4", func := "souterrain/souterrainlaw05.NameOrder", spec := "nameOrder", recurses := true, apart := false, narrowed := true }
def NameOrderUptoSaid : Prop := nameOrderUptoRow.holds Try.pinned (OpenSpec.upto nameOrderSpec)

/-- 'souterrainlaw05.NameAll', WHERE WHAT IT READS IS OF BULK AT MOST 1048576: true; the input reads as it did. -/
def nameAllUptoRow : OpenClaim := { program := "ytgolccldopofbaa", sum := "4dd5c4a7883a0d55b1a795dc014402a10fb32e46b4ca60b41ba725665647d6b4", func := "souterrain/souterrainlaw05.NameAll", spec := "nameAll", recurses := true, apart := false, narrowed := true }
def NameAllUptoSaid : Prop := nameAllUptoRow.holds Try.pinned (OpenSpec.upto nameAllSpec)

/-- 'souterrainlaw05.NameSorted', WHERE WHAT IT READS IS OF BULK AT MOST 1048576: true; the input reads as it did. -/
def nameSortedUptoRow : OpenClaim := { program := "ytgolccldopofbaa", sum := "4dd5c4a7883a0d55b1a795dc014402a10fb32e46b4ca60b41ba725665647d6b4", func := "souterrain/souterrainlaw05.NameSorted", spec := "nameSorted", recurses := true, apart := false, narrowed := true }
def NameSortedUptoSaid : Prop := nameSortedUptoRow.holds Try.pinned (OpenSpec.upto nameSortedSpec)

end Rows
end Go.Proofs.Ytgolccldopofbaa
