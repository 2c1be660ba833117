/-
  No cell of these rows narrows 'for every input' (looked for: loops, veiled, ifaces, maps, wideKeys, modest, calm, conditions, laid).
  DERIVED. THE GIVEN ROWS OF THIS SEAT. 6 by the template 'for every input the law returns true; each argument reads behind the call as it read before'; 0 by the template 'total and deterministic' (their statements: YtdfjacpfmjgfiaaTotals.lean).
  GIVEN WITH THE SEED: the statements are not yours to turn. If you find one false, say at which input.
  Laid BY PROGRAM, IN A SANDBOX (cutbox-rows.mjs): the forced cells as the released guide's own fill.sh prints them over the translation 174e050f1a545764… (all of the seat's roots in one cut). By AI agents, Wed Nov 11 2026. No macro, syntax, notation, axiom, sorry.
-/
import Derived.Test.YtdfjacpfmjgfiaaChecked
import GoSem.Claim
import GoSem.ClaimJoined
import GoSem.ClaimMapViews
import Derived.JoinedTies
import Derived.KernelRfl
namespace Go.Proofs.Ytdfjacpfmjgfiaa
/- THE CELL 'sum', in the pinned program and in every row, IS THE sha256 OF THE DUMP (.gsa) THAT YtdfjacpfmjgfiaaProg.lean LOADS. Nothing in Lean hashes anything: it is a label: what it is worth is what the hold of that sum in a sandbox is worth. -/
noncomputable def Try.pinned : Pinned := { name := "ytdfjacpfmjgfiaa", sum := "174e050f1a545764db7f938ea91803517208ef81af4541f2e3e690bbd282fb97", checked := Try.checked }
namespace Rows
def none {H : Type} : Left H := { results := [], args := [] }

/-- 'souterrainlaw17.PinPlays': WHATEVER THE INPUT: true; the input reads as it did. -/
def pinPlaysSpec : ChangeSpec := { name := "pinPlays", fn := fun _ => fun
  | [d1, d2] => { results := [.lit (.bool true)], args := [d1, d2] }
  | _ => none }
def pinPlaysRow : OpenClaim := { program := "ytdfjacpfmjgfiaa", sum := "174e050f1a545764db7f938ea91803517208ef81af4541f2e3e690bbd282fb97", func := "souterrain/souterrainlaw17.PinPlays", spec := "pinPlays", inPlace := ["slices.overlaps[int]"], apart := false }
def PinPlaysSaid : Prop := pinPlaysRow.holds Try.pinned (OpenSpec.ofChange pinPlaysSpec)

/-- ITS FALSE NEIGHBOUR: 'it returns false'. Refute it at one input. -/
def pinPlaysWrong : ChangeSpec := { name := "pinPlays", fn := fun _ => fun
  | [d1, d2] => { results := [.lit (.bool false)], args := [d1, d2] }
  | _ => none }
def PinPlaysWrongFalsely : Prop := pinPlaysRow.holds Try.pinned (OpenSpec.ofChange pinPlaysWrong)

/-- 'souterrainlaw17.PinAs': WHATEVER THE INPUT: true; the input reads as it did. -/
def pinAsSpec : ChangeSpec := { name := "pinAs", fn := fun _ => fun
  | [d1, d2, d3] => { results := [.lit (.bool true)], args := [d1, d2, d3] }
  | _ => none }
def pinAsRow : OpenClaim := { program := "ytdfjacpfmjgfiaa", sum := "174e050f1a545764db7f938ea91803517208ef81af4541f2e3e690bbd282fb97", func := "souterrain/souterrainlaw17.PinAs", spec := "pinAs", inPlace := ["slices.overlaps[int]"], apart := false }
def PinAsSaid : Prop := pinAsRow.holds Try.pinned (OpenSpec.ofChange pinAsSpec)

/-- ITS FALSE NEIGHBOUR: 'it returns false'. Refute it at one input. -/
def pinAsWrong : ChangeSpec := { name := "pinAs", fn := fun _ => fun
  | [d1, d2, d3] => { results := [.lit (.bool false)], args := [d1, d2, d3] }
  | _ => none }
def PinAsWrongFalsely : Prop := pinAsRow.holds Try.pinned (OpenSpec.ofChange pinAsWrong)

/-- 'souterrainlaw17.PinOnce': WHATEVER THE INPUT: true; the input reads as it did. -/
def pinOnceSpec : ChangeSpec := { name := "pinOnce", fn := fun _ => fun
  | [d1, d2] => { results := [.lit (.bool true)], args := [d1, d2] }
  | _ => none }
def pinOnceRow : OpenClaim := { program := "ytdfjacpfmjgfiaa", sum := "174e050f1a545764db7f938ea91803517208ef81af4541f2e3e690bbd282fb97", func := "souterrain/souterrainlaw17.PinOnce", spec := "pinOnce", inPlace := ["slices.overlaps[int]"], apart := false }
def PinOnceSaid : Prop := pinOnceRow.holds Try.pinned (OpenSpec.ofChange pinOnceSpec)

/-- ITS FALSE NEIGHBOUR: 'it returns false'. Refute it at one input. -/
def pinOnceWrong : ChangeSpec := { name := "pinOnce", fn := fun _ => fun
  | [d1, d2] => { results := [.lit (.bool false)], args := [d1, d2] }
  | _ => none }
def PinOnceWrongFalsely : Prop := pinOnceRow.holds Try.pinned (OpenSpec.ofChange pinOnceWrong)

/-- 'souterrainlaw17.PinOf': WHATEVER THE INPUT: true; the input reads as it did. -/
def pinOfSpec : ChangeSpec := { name := "pinOf", fn := fun _ => fun
  | [d1, d2] => { results := [.lit (.bool true)], args := [d1, d2] }
  | _ => none }
def pinOfRow : OpenClaim := { program := "ytdfjacpfmjgfiaa", sum := "174e050f1a545764db7f938ea91803517208ef81af4541f2e3e690bbd282fb97", func := "souterrain/souterrainlaw17.PinOf", spec := "pinOf", inPlace := ["slices.overlaps[int]"], apart := false }
def PinOfSaid : Prop := pinOfRow.holds Try.pinned (OpenSpec.ofChange pinOfSpec)

/-- ITS FALSE NEIGHBOUR: 'it returns false'. Refute it at one input. -/
def pinOfWrong : ChangeSpec := { name := "pinOf", fn := fun _ => fun
  | [d1, d2] => { results := [.lit (.bool false)], args := [d1, d2] }
  | _ => none }
def PinOfWrongFalsely : Prop := pinOfRow.holds Try.pinned (OpenSpec.ofChange pinOfWrong)

/-- 'souterrainlaw17.PinClosed': WHATEVER THE INPUT: true; the input reads as it did. -/
def pinClosedSpec : ChangeSpec := { name := "pinClosed", fn := fun _ => fun
  | [d1, d2] => { results := [.lit (.bool true)], args := [d1, d2] }
  | _ => none }
def pinClosedRow : OpenClaim := { program := "ytdfjacpfmjgfiaa", sum := "174e050f1a545764db7f938ea91803517208ef81af4541f2e3e690bbd282fb97", func := "souterrain/souterrainlaw17.PinClosed", spec := "pinClosed", inPlace := ["slices.overlaps[int]"], apart := false }
def PinClosedSaid : Prop := pinClosedRow.holds Try.pinned (OpenSpec.ofChange pinClosedSpec)

/-- ITS FALSE NEIGHBOUR: 'it returns false'. Refute it at one input. -/
def pinClosedWrong : ChangeSpec := { name := "pinClosed", fn := fun _ => fun
  | [d1, d2] => { results := [.lit (.bool false)], args := [d1, d2] }
  | _ => none }
def PinClosedWrongFalsely : Prop := pinClosedRow.holds Try.pinned (OpenSpec.ofChange pinClosedWrong)

/-- 'souterrainlaw17.PinMore': WHATEVER THE INPUT: true; the input reads as it did. -/
def pinMoreSpec : ChangeSpec := { name := "pinMore", fn := fun _ => fun
  | [d1, d2] => { results := [.lit (.bool true)], args := [d1, d2] }
  | _ => none }
def pinMoreRow : OpenClaim := { program := "ytdfjacpfmjgfiaa", sum := "174e050f1a545764db7f938ea91803517208ef81af4541f2e3e690bbd282fb97", func := "souterrain/souterrainlaw17.PinMore", spec := "pinMore", inPlace := ["slices.overlaps[int]"], apart := false }
def PinMoreSaid : Prop := pinMoreRow.holds Try.pinned (OpenSpec.ofChange pinMoreSpec)

/-- ITS FALSE NEIGHBOUR: 'it returns false'. Refute it at one input. -/
def pinMoreWrong : ChangeSpec := { name := "pinMore", fn := fun _ => fun
  | [d1, d2] => { results := [.lit (.bool false)], args := [d1, d2] }
  | _ => none }
def PinMoreWrongFalsely : Prop := pinMoreRow.holds Try.pinned (OpenSpec.ofChange pinMoreWrong)

/- THE SECOND FORM. 'bulk': how many values and letters a reading holds, each counted each time it is reached (what is shared counts as often as it is met; a slice's spare places count too). A statement '..UptoSaid' is the law's where the arguments, and the package variables that the reading takes, are together of bulk at most 1048576: NARROWER than '..Said'. Prove '..Said' where nothing that the law and all that it calls make is longer than what came in: it says more and counts as full. Else prove '..UptoSaid'. A law counts once. -/
mutual
def uptoBulk {H : Type} : DataW H → Nat
  | .lit (.string bytes) => bytes.length + 1
  | .lit _ => 1
  | .nil => 1
  | .ptr d => uptoBulk d + 1
  | .slice elems spare => uptoBulkAll elems + uptoBulkAll spare + 1
  | .agg parts => uptoBulkAll parts + 1
  | .iface _ d => uptoBulk d + 1
  | .map entries => uptoBulkEntries entries + 1
  | .held _ => 1
def uptoBulkAll {H : Type} : List (DataW H) → Nat
  | [] => 0
  | d :: r => uptoBulk d + uptoBulkAll r
def uptoBulkEntries {H : Type} : List (Lit × DataW H) → Nat
  | [] => 0
  | x :: r => uptoBulkEntry x + uptoBulkEntries r
def uptoBulkEntry {H : Type} : Lit × DataW H → Nat
  | (.string bytes, d) => bytes.length + uptoBulk d + 1
  | (_, d) => uptoBulk d + 1
 end
def uptoSmall : (H : Type) → List (DataW H) → Bool := fun _ ds => decide (uptoBulkAll ds ≤ 1048576)
def OpenSpec.upto (s : _root_.Go.ChangeSpec) : _root_.Go.OpenSpec := { _root_.Go.OpenSpec.ofChange s with cond := some uptoSmall }

/-- 'souterrainlaw17.PinPlays', WHERE WHAT IT READS IS OF BULK AT MOST 1048576: true; the input reads as it did. -/
def pinPlaysUptoRow : OpenClaim := { program := "ytdfjacpfmjgfiaa", sum := "174e050f1a545764db7f938ea91803517208ef81af4541f2e3e690bbd282fb97", func := "souterrain/souterrainlaw17.PinPlays", spec := "pinPlays", inPlace := ["slices.overlaps[int]"], apart := false, narrowed := true }
def PinPlaysUptoSaid : Prop := pinPlaysUptoRow.holds Try.pinned (OpenSpec.upto pinPlaysSpec)

/-- 'souterrainlaw17.PinAs', WHERE WHAT IT READS IS OF BULK AT MOST 1048576: true; the input reads as it did. -/
def pinAsUptoRow : OpenClaim := { program := "ytdfjacpfmjgfiaa", sum := "174e050f1a545764db7f938ea91803517208ef81af4541f2e3e690bbd282fb97", func := "souterrain/souterrainlaw17.PinAs", spec := "pinAs", inPlace := ["slices.overlaps[int]"], apart := false, narrowed := true }
def PinAsUptoSaid : Prop := pinAsUptoRow.holds Try.pinned (OpenSpec.upto pinAsSpec)

/-- 'souterrainlaw17.PinOnce', WHERE WHAT IT READS IS OF BULK AT MOST 1048576: true; the input reads as it did. -/
def pinOnceUptoRow : OpenClaim := { program := "ytdfjacpfmjgfiaa", sum := "174e050f1a545764db7f938ea91803517208ef81af4541f2e3e690bbd282fb97", func := "souterrain/souterrainlaw17.PinOnce", spec := "pinOnce", inPlace := ["slices.overlaps[int]"], apart := false, narrowed := true }
def PinOnceUptoSaid : Prop := pinOnceUptoRow.holds Try.pinned (OpenSpec.upto pinOnceSpec)

/-- 'souterrainlaw17.PinOf', WHERE WHAT IT READS IS OF BULK AT MOST 1048576: true; the input reads as it did. -/
def pinOfUptoRow : OpenClaim := { program := "ytdfjacpfmjgfiaa", sum := "174e050f1a545764db7f938ea91803517208ef81af4541f2e3e690bbd282fb97", func := "souterrain/souterrainlaw17.PinOf", spec := "pinOf", inPlace := ["slices.overlaps[int]"], apart := false, narrowed := true }
def PinOfUptoSaid : Prop := pinOfUptoRow.holds Try.pinned (OpenSpec.upto pinOfSpec)

/-- 'souterrainlaw17.PinClosed', WHERE WHAT IT READS IS OF BULK AT MOST 1048576: true; the input reads as it did. -/
def pinClosedUptoRow : OpenClaim := { program := "ytdfjacpfmjgfiaa", sum := "174e050f1a545764db7f938ea91803517208ef81af4541f2e3e690bbd282fb97", func := "souterrain/souterrainlaw17.PinClosed", spec := "pinClosed", inPlace := ["slices.overlaps[int]"], apart := false, narrowed := true }
def PinClosedUptoSaid : Prop := pinClosedUptoRow.holds Try.pinned (OpenSpec.upto pinClosedSpec)

/-- 'souterrainlaw17.PinMore', WHERE WHAT IT READS IS OF BULK AT MOST 1048576: true; the input reads as it did. -/
def pinMoreUptoRow : OpenClaim := { program := "ytdfjacpfmjgfiaa", sum := "174e050f1a545764db7f938ea91803517208ef81af4541f2e3e690bbd282fb97", func := "souterrain/souterrainlaw17.PinMore", spec := "pinMore", inPlace := ["slices.overlaps[int]"], apart := false, narrowed := true }
def PinMoreUptoSaid : Prop := pinMoreUptoRow.holds Try.pinned (OpenSpec.upto pinMoreSpec)

end Rows
end Go.Proofs.Ytdfjacpfmjgfiaa
