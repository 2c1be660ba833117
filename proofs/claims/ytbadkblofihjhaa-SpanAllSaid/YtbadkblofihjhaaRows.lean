/-
  No cell of these rows narrows 'for every input' (looked for: loops, veiled, ifaces, maps, wideKeys, modest, calm, conditions, laid).
  DERIVED. THE GIVEN ROWS OF THIS SEAT. 5 by the template 'for every input the law returns true; each argument reads behind the call as it read before'; 0 by the template 'total and deterministic' (their statements: YtbadkblofihjhaaTotals.lean).
  GIVEN WITH THE SEED: the statements are not yours to turn. If you find one false, say at which input.
  Laid BY PROGRAM, IN A SANDBOX (cutbox-rows.mjs): the forced cells as the released guide's own fill.sh prints them over the translation 021eb900864b7e28… (all of the seat's roots in one cut). By AI agents, Wed Nov 11 2026. No macro, syntax, notation, axiom, sorry.
-/
import Derived.Test.YtbadkblofihjhaaChecked
import GoSem.Claim
import GoSem.ClaimJoined
import GoSem.ClaimMapViews
import Derived.JoinedTies
import Derived.KernelRfl
namespace Go.Proofs.Ytbadkblofihjhaa
/- THE CELL 'sum', in the pinned program and in every row, IS THE sha256 OF THE DUMP (.gsa) THAT YtbadkblofihjhaaProg.lean LOADS. Nothing in Lean hashes anything: it is a label: what it is worth is what the hold of that sum in a sandbox is worth. -/
noncomputable def Try.pinned : Pinned := { name := "ytbadkblofihjhaa", sum := "021eb900864b7e28c76cd10119b8749c69069fe4e1c44e90137e2e3e254ebc48", checked := Try.checked }
namespace Rows
def none {H : Type} : Left H := { results := [], args := [] }

/-- 'souterrainlaw07.SpanTells': WHATEVER THE INPUT: true; the input reads as it did. -/
def spanTellsSpec : ChangeSpec := { name := "spanTells", fn := fun _ => fun
  | [d1, d2, d3, d4] => { results := [.lit (.bool true)], args := [d1, d2, d3, d4] }
  | _ => none }
def spanTellsRow : OpenClaim := { program := "ytbadkblofihjhaa", sum := "021eb900864b7e28c76cd10119b8749c69069fe4e1c44e90137e2e3e254ebc48", func := "souterrain/souterrainlaw07.SpanTells", spec := "spanTells", unfollowed := true, recurses := true, apart := false }
def SpanTellsSaid : Prop := spanTellsRow.holds Try.pinned (OpenSpec.ofChange spanTellsSpec)

/-- ITS FALSE NEIGHBOUR: 'it returns false'. Refute it at one input. -/
def spanTellsWrong : ChangeSpec := { name := "spanTells", fn := fun _ => fun
  | [d1, d2, d3, d4] => { results := [.lit (.bool false)], args := [d1, d2, d3, d4] }
  | _ => none }
def SpanTellsWrongFalsely : Prop := spanTellsRow.holds Try.pinned (OpenSpec.ofChange spanTellsWrong)

/-- 'souterrainlaw07.SpanAll': WHATEVER THE INPUT: true; the input reads as it did. -/
def spanAllSpec : ChangeSpec := { name := "spanAll", fn := fun _ => fun
  | [d1, d2, d3] => { results := [.lit (.bool true)], args := [d1, d2, d3] }
  | _ => none }
def spanAllRow : OpenClaim := { program := "ytbadkblofihjhaa", sum := "021eb900864b7e28c76cd10119b8749c69069fe4e1c44e90137e2e3e254ebc48", func := "souterrain/souterrainlaw07.SpanAll", spec := "spanAll", unfollowed := true, recurses := true, apart := false }
def SpanAllSaid : Prop := spanAllRow.holds Try.pinned (OpenSpec.ofChange spanAllSpec)

/-- ITS FALSE NEIGHBOUR: 'it returns false'. Refute it at one input. -/
def spanAllWrong : ChangeSpec := { name := "spanAll", fn := fun _ => fun
  | [d1, d2, d3] => { results := [.lit (.bool false)], args := [d1, d2, d3] }
  | _ => none }
def SpanAllWrongFalsely : Prop := spanAllRow.holds Try.pinned (OpenSpec.ofChange spanAllWrong)

/-- 'souterrainlaw07.SpanParted': WHATEVER THE INPUT: true; the input reads as it did. -/
def spanPartedSpec : ChangeSpec := { name := "spanParted", fn := fun _ => fun
  | [d1, d2, d3, d4] => { results := [.lit (.bool true)], args := [d1, d2, d3, d4] }
  | _ => none }
def spanPartedRow : OpenClaim := { program := "ytbadkblofihjhaa", sum := "021eb900864b7e28c76cd10119b8749c69069fe4e1c44e90137e2e3e254ebc48", func := "souterrain/souterrainlaw07.SpanParted", spec := "spanParted", unfollowed := true, recurses := true, apart := false }
def SpanPartedSaid : Prop := spanPartedRow.holds Try.pinned (OpenSpec.ofChange spanPartedSpec)

/-- ITS FALSE NEIGHBOUR: 'it returns false'. Refute it at one input. -/
def spanPartedWrong : ChangeSpec := { name := "spanParted", fn := fun _ => fun
  | [d1, d2, d3, d4] => { results := [.lit (.bool false)], args := [d1, d2, d3, d4] }
  | _ => none }
def SpanPartedWrongFalsely : Prop := spanPartedRow.holds Try.pinned (OpenSpec.ofChange spanPartedWrong)

/-- 'souterrainlaw07.SpanEnds': WHATEVER THE INPUT: true; the input reads as it did. -/
def spanEndsSpec : ChangeSpec := { name := "spanEnds", fn := fun _ => fun
  | [d1, d2] => { results := [.lit (.bool true)], args := [d1, d2] }
  | _ => none }
def spanEndsRow : OpenClaim := { program := "ytbadkblofihjhaa", sum := "021eb900864b7e28c76cd10119b8749c69069fe4e1c44e90137e2e3e254ebc48", func := "souterrain/souterrainlaw07.SpanEnds", spec := "spanEnds", unfollowed := true, recurses := true, apart := false }
def SpanEndsSaid : Prop := spanEndsRow.holds Try.pinned (OpenSpec.ofChange spanEndsSpec)

/-- ITS FALSE NEIGHBOUR: 'it returns false'. Refute it at one input. -/
def spanEndsWrong : ChangeSpec := { name := "spanEnds", fn := fun _ => fun
  | [d1, d2] => { results := [.lit (.bool false)], args := [d1, d2] }
  | _ => none }
def SpanEndsWrongFalsely : Prop := spanEndsRow.holds Try.pinned (OpenSpec.ofChange spanEndsWrong)

/-- 'souterrainlaw07.SpanClips': WHATEVER THE INPUT: true; the input reads as it did. -/
def spanClipsSpec : ChangeSpec := { name := "spanClips", fn := fun _ => fun
  | [d1, d2, d3] => { results := [.lit (.bool true)], args := [d1, d2, d3] }
  | _ => none }
def spanClipsRow : OpenClaim := { program := "ytbadkblofihjhaa", sum := "021eb900864b7e28c76cd10119b8749c69069fe4e1c44e90137e2e3e254ebc48", func := "souterrain/souterrainlaw07.SpanClips", spec := "spanClips", unfollowed := true, recurses := true, apart := false }
def SpanClipsSaid : Prop := spanClipsRow.holds Try.pinned (OpenSpec.ofChange spanClipsSpec)

/-- ITS FALSE NEIGHBOUR: 'it returns false'. Refute it at one input. -/
def spanClipsWrong : ChangeSpec := { name := "spanClips", fn := fun _ => fun
  | [d1, d2, d3] => { results := [.lit (.bool false)], args := [d1, d2, d3] }
  | _ => none }
def SpanClipsWrongFalsely : Prop := spanClipsRow.holds Try.pinned (OpenSpec.ofChange spanClipsWrong)

/- THE SECOND FORM. 'bulk': how many values and letters a reading holds, each counted each time it is reached (what is shared counts as often as it is met; a slice's spare places count too). A statement '..UptoSaid' is the law's where the arguments, and the package variables that the reading takes, are together of bulk at most 1048576: NARROWER than '..Said'. Prove '..Said' where nothing that the law and all that it calls make is longer than what came in: it says more and counts as full. Else prove '..UptoSaid'. A law counts once. -/
mutual
def uptoBulk {H : Type} : DataW H → Nat
  | .lit (.string bytes) => bytes.length + 1
  | .lit _ => 1
  | .nil => 1
  | .ptr d => uptoBulk d + 1
  | .slice elems spare => uptoBulkAll elems + uptoBulkAll spare + 1
  | .agg parts => uptoBulkAll parts + 1
  | .iface _ d => uptoBulk d + 1
  | .map entries => uptoBulkEntries entries + 1
  | .held _ => 1
def uptoBulkAll {H : Type} : List (DataW H) → Nat
  | [] => 0
  | d :: r => uptoBulk d + uptoBulkAll r
def uptoBulkEntries {H : Type} : List (Lit × DataW H) → Nat
  | [] => 0
  | x :: r => uptoBulkEntry x + uptoBulkEntries r
def uptoBulkEntry {H : Type} : Lit × DataW H → Nat
  | (.string bytes, d) => bytes.length + uptoBulk d + 1
  | (_, d) => uptoBulk d + 1
 end
def uptoSmall : (H : Type) → List (DataW H) → Bool := fun _ ds => decide (uptoBulkAll ds ≤ 1048576)
def OpenSpec.upto (s : _root_.Go.ChangeSpec) : _root_.Go.OpenSpec := { _root_.Go.OpenSpec.ofChange s with cond := some uptoSmall }

/-- 'souterrainlaw07.SpanTells', WHERE WHAT IT READS IS OF BULK AT MOST 1048576: true; the input reads as it did. -/
def spanTellsUptoRow : OpenClaim := { program := "ytbadkblofihjhaa", sum := "021eb900864b7e28c76cd10119b8749c69069fe4e1c44e90137e2e3e254ebc48", func := "souterrain/souterrainlaw07.SpanTells", spec := "spanTells", unfollowed := true, recurses := true, apart := false, narrowed := true }
def SpanTellsUptoSaid : Prop := spanTellsUptoRow.holds Try.pinned (OpenSpec.upto spanTellsSpec)

/-- 'souterrainlaw07.SpanAll', WHERE WHAT IT READS IS OF BULK AT MOST 1048576: true; the input reads as it did. -/
def spanAllUptoRow : OpenClaim := { program := "ytbadkblofihjhaa", sum := "021eb900864b7e28c76cd10119b8749c69069fe4e1c44e90137e2e3e254ebc48", func := "souterrain/souterrainlaw07.SpanAll", spec := "spanAll", unfollowed := true, recurses := true, apart := false, narrowed := true }
def SpanAllUptoSaid : Prop := spanAllUptoRow.holds Try.pinned (OpenSpec.upto spanAllSpec)

/-- 'souterrainlaw07.SpanParted', WHERE WHAT IT READS IS OF BULK AT MOST 1048576: true; the input reads as it did. -/
def spanPartedUptoRow : OpenClaim := { program := "ytbadkblofihjhaa", sum := "021eb900864b7e28c76cd10119b8749c69069fe4e1c44e90137e2e3e254ebc48", func := "souterrain/souterrainlaw07.SpanParted", spec := "spanParted", unfollowed := true, recurses := true, apart := false, narrowed := true }
def SpanPartedUptoSaid : Prop := spanPartedUptoRow.holds Try.pinned (OpenSpec.upto spanPartedSpec)

/-- 'souterrainlaw07.SpanEnds', WHERE WHAT IT READS IS OF BULK AT MOST 1048576: true; the input reads as it did. -/
def spanEndsUptoRow : OpenClaim := { program := "ytbadkblofihjhaa", sum := "021eb900864b7e28c76cd10119b8749c69069fe4e1c44e90137e2e3e254ebc48", func := "souterrain/souterrainlaw07.SpanEnds", spec := "spanEnds", unfollowed := true, recurses := true, apart := false, narrowed := true }
def SpanEndsUptoSaid : Prop := spanEndsUptoRow.holds Try.pinned (OpenSpec.upto spanEndsSpec)

/-- 'souterrainlaw07.SpanClips', WHERE WHAT IT READS IS OF BULK AT MOST 1048576: true; the input reads as it did. -/
def spanClipsUptoRow : OpenClaim := { program := "ytbadkblofihjhaa", sum := "021eb900864b7e28c76cd10119b8749c69069fe4e1c44e90137e2e3e254ebc48", func := "souterrain/souterrainlaw07.SpanClips", spec := "spanClips", unfollowed := true, recurses := true, apart := false, narrowed := true }
def SpanClipsUptoSaid : Prop := spanClipsUptoRow.holds Try.pinned (OpenSpec.upto spanClipsSpec)

end Rows
end Go.Proofs.Ytbadkblofihjhaa
